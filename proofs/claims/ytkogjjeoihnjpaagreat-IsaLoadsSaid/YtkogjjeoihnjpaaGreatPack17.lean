/- IsaLoads, a size: the run. No condition. -/
import Derived.Test.YtkogjjeoihnjpaaGreatPack15
import Derived.KernelRfl
section
set_option linter.unusedVariables false
set_option linter.unusedSimpArgs false
namespace Go.Proofs.YtkogjjeoihnjpaaGreat.Sx
open Go Go.RowKit
set_option maxRecDepth 100000
theorem loads_run0u : (xfn Tryz.prog tab.get (lawOrcs [encO (instS 7 0 0 5 6 0 1 false) 6455331, encO (instS 6 0 7 5 0 0 1 false) 181123]) 5000 100 9 [hartS, uS 66, iS 67, restS 4 0 68, bS false, uS 70] (hpN [])).every (fun a => a.1.isB true) = true := by kernel_rfl
theorem loads_run0s : (xfn Tryz.prog tab.get (lawOrcs [encO (instS 7 0 0 5 6 0 1 false) 6455331, encO (instS 6 0 7 5 0 0 1 true) 164739]) 5000 100 9 [hartS, uS 66, iS 67, restS 4 0 68, bS true, uS 70] (hpN [])).every (fun a => a.1.isB true) = true := by kernel_rfl
end Go.Proofs.YtkogjjeoihnjpaaGreat.Sx
end
