/- IsaReserve, what stands between: the run. No condition. -/
import Derived.Test.YtkogjjeoihnjpaaGreatPack28
import Derived.KernelRfl
section
set_option linter.unusedVariables false
set_option linter.unusedSimpArgs false
namespace Go.Proofs.YtkogjjeoihnjpaaGreat.Sx
open Go Go.RowKit
set_option maxRecDepth 100000
theorem res_run1w : (xfn Tryz.prog tab.get (lawOrcs [encO (instS 20 0 7 5 0 0 8 false) 268612527, encO (instS 13 0 0 0 0 0 0 false) 115, encO (instS 21 0 10 5 6 0 8 false) 409122095]) 5000 100 5 [hartS, uS 66, iS 67, uS 68, restS2 5 1 69, bS true] (hpN [])).every (isB' true) = true := by kernel_rfl
end Go.Proofs.YtkogjjeoihnjpaaGreat.Sx
end
