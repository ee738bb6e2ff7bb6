/- Some ways of a run hold. No condition. Some ways of a run hold. No condition. -/
import Derived.Test.YtkogjjeoihnjpaaGreatPack22
import Derived.KernelRfl
section
set_option linter.unusedVariables false
namespace Go.Proofs.YtkogjjeoihnjpaaGreat.Sx
open Go Go.RowKit
set_option maxRecDepth 100000
theorem emay_ran_ttttft : (T.go [true, true, true, true, false, true] (mayQT 77)).every mayQ = true := by kernel_rfl
end Go.Proofs.YtkogjjeoihnjpaaGreat.Sx
end
section
set_option linter.unusedVariables false
namespace Go.Proofs.YtkogjjeoihnjpaaGreat.Sx
open Go Go.RowKit
set_option maxRecDepth 100000
theorem emay_ran_tttft : (T.go [true, true, true, false, true] (mayQT 77)).every mayQ = true := by kernel_rfl
end Go.Proofs.YtkogjjeoihnjpaaGreat.Sx
end
