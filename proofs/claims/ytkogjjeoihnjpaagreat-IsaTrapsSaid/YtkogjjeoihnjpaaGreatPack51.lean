/- IsaTraps, an instruction: the run. No condition. -/
import Derived.Test.YtkogjjeoihnjpaaGreatPack28
import Derived.KernelRfl
section
set_option linter.unusedVariables false
set_option linter.unusedSimpArgs false
namespace Go.Proofs.YtkogjjeoihnjpaaGreat.Sx
open Go Go.RowKit
set_option maxRecDepth 100000
theorem traps_run6m : (xfn Tryz.prog tab.get (lawOrcs []) 5000 100 13 [hartS, uS 66, restS 8 6 67, bS false, iS 69] (hpN [])).every (isB' true) = true := by kernel_rfl
theorem traps_run6u : (xfn Tryz.prog tab.get (lawOrcs []) 5000 100 13 [hartS, uS 66, restS 8 6 67, bS true, iS 69] (hpN [])).every (isB' true) = true := by kernel_rfl
end Go.Proofs.YtkogjjeoihnjpaaGreat.Sx
end
