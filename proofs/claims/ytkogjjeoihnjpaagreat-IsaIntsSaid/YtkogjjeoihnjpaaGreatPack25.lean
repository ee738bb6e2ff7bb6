/- effect.Do, some operations. No condition. effect.Do, some operations. No condition. -/
import Derived.Test.YtkogjjeoihnjpaaGreatPack21
import Derived.KernelRfl
section
set_option linter.unusedVariables false
namespace Go.Proofs.YtkogjjeoihnjpaaGreat.Sx
open Go Go.RowKit
set_option maxRecDepth 100000
theorem do5 : ∃ F, doS (mayK ++ [opK 5]) F := do_tells1 _ (by kernel_rfl) (by kernel_rfl)
end Go.Proofs.YtkogjjeoihnjpaaGreat.Sx
end
section
set_option linter.unusedVariables false
namespace Go.Proofs.YtkogjjeoihnjpaaGreat.Sx
open Go Go.RowKit
set_option maxRecDepth 100000
theorem do18 : ∃ F, doS (mayK ++ [opK 18]) F := do_tells1 _ (by kernel_rfl) (by kernel_rfl)
end Go.Proofs.YtkogjjeoihnjpaaGreat.Sx
end
