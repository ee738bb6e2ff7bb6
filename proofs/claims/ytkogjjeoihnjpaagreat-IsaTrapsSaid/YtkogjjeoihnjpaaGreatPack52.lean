/- IsaTraps, an instruction: the run. No condition. -/
import Derived.Test.YtkogjjeoihnjpaaGreatPack28
import Derived.Test.YtkogjjeoihnjpaaGreatPack44
import Derived.KernelRfl
section
set_option linter.unusedVariables false
set_option linter.unusedSimpArgs false
namespace Go.Proofs.YtkogjjeoihnjpaaGreat.Sx
open Go Go.RowKit
set_option maxRecDepth 100000
theorem traps_run7m : (xfn Tryz.prog tab.get (lawOrcs [mdfO]) 5000 100 13 [hartS, uS 66, restS 8 7 67, bS false, iS 69] (hpN [])).every (isB' true) = true := by kernel_rfl
theorem traps_run7u : (xfn Tryz.prog tab.get (lawOrcs [mdfO]) 5000 100 13 [hartS, uS 66, restS 8 7 67, bS true, iS 69] (hpN [])).every (isB' true) = true := by kernel_rfl
noncomputable def ft7 : Ft := fun i => if i = 20 then mdfF else fun _ => []
theorem traps_orc7 : OrcOk Tryz.prog memsX ft7 (lawOrcs [mdfO]) := lawOrcs_ok fun o ho => by
  simp only [List.mem_cons, List.not_mem_nil, or_false] at ho
  subst ho
  exact mdfO_ok _ _ rfl
end Go.Proofs.YtkogjjeoihnjpaaGreat.Sx
end
