/- IsaLoads, a size: the run. No condition. -/
import Derived.Test.YtkogjjeoihnjpaaGreatPack15
import Derived.KernelRfl
section
set_option linter.unusedVariables false
set_option linter.unusedSimpArgs false
namespace Go.Proofs.YtkogjjeoihnjpaaGreat.Sx
open Go Go.RowKit
set_option maxRecDepth 100000
theorem loads_run3u : (xfn Tryz.prog tab.get (lawOrcs [encO (instS 7 0 0 5 6 0 8 false) 6467619, encO (instS 6 0 7 5 0 0 8 true) 177027]) 5000 100 9 [hartS, uS 66, iS 67, restS 4 3 68, bS false, uS 70] (hpN [])).every (fun a => a.1.isB true) = true := by kernel_rfl
theorem loads_run3s : (xfn Tryz.prog tab.get (lawOrcs [encO (instS 7 0 0 5 6 0 8 false) 6467619, encO (instS 6 0 7 5 0 0 8 true) 177027]) 5000 100 9 [hartS, uS 66, iS 67, restS 4 3 68, bS true, uS 70] (hpN [])).every (fun a => a.1.isB true) = true := by kernel_rfl
end Go.Proofs.YtkogjjeoihnjpaaGreat.Sx
end
