/- IsaPages, a size: the run. No condition. -/
import Derived.Test.YtkogjjeoihnjpaaGreatPack15
import Derived.KernelRfl
section
set_option linter.unusedVariables false
set_option linter.unusedSimpArgs false
namespace Go.Proofs.YtkogjjeoihnjpaaGreat.Sx
open Go Go.RowKit
set_option maxRecDepth 100000
theorem pages_run1l : (xfn Tryz.prog tab.get (lawOrcs []) 5000 100 12 [hartS, iS 66, restS 4 1 67, bS false, uS 69] (hpN [])).every (fun a => a.1.isB true) = true := by kernel_rfl
theorem pages_run1s : (xfn Tryz.prog tab.get (lawOrcs []) 5000 100 12 [hartS, iS 66, restS 4 1 67, bS true, uS 69] (hpN [])).every (fun a => a.1.isB true) = true := by kernel_rfl
end Go.Proofs.YtkogjjeoihnjpaaGreat.Sx
end
