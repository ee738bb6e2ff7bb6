/- csr.Modify: registers that may be, again. No condition. -/
import Derived.Test.YtkogjjeoihnjpaaGreatPack4
import Derived.Test.YtkogjjeoihnjpaaGreatPack8
import Derived.Test.YtkogjjeoihnjpaaGreatPack41
import Derived.Test.YtkogjjeoihnjpaaGreatPack5
import Derived.Test.YtkogjjeoihnjpaaGreatPack43
import Derived.KernelRfl
section
set_option linter.unusedVariables false
namespace Go.Proofs.YtkogjjeoihnjpaaGreat.Sx
open Go Go.RowKit
set_option maxRecDepth 100000
noncomputable def modOrc : Orc := orcL [mrdO, valO, wriO]
noncomputable def ft2 : Ft := fun i => if i = 17 then mrdF else if i = 18 then valF else if i = 19 then wriF else fun _ => []
theorem modOrc_ok : OrcOk Tryz.prog noExt ft2 modOrc := orcL_ok fun o ho => by
  simp only [List.mem_cons, List.not_mem_nil, or_false] at ho
  rcases ho with rfl | rfl | rfl
  · exact mrdO_ok _ _ rfl
  · exact valO_ok _ _ rfl
  · exact wriO_ok _ _ rfl
/-! ### csr.Modify -/
def mdfRs : List (Int × Int) := csrR ++ [R 4095, R 3, R 31, U, BB] ++ envR
theorem mdf_ran : ranB (xfn Tryz.prog tab.get modOrc 5000 100 182 (argsG [.agg csrC, .one ci, .one ci, .one ci, .one cu, .one cb, .agg envC] mdfRs) (hpF csrK)) (.tup [.one cu, .agg csrC, .one ci]) ([U] ++ csrR ++ [R 20]) mdfRs csrK1 = true := by kernel_rfl
noncomputable def mdfF : List Int → List Int := Fof (xfn Tryz.prog tab.get modOrc 5000 100 182 (argsG [.agg csrC, .one ci, .one ci, .one ci, .one cu, .one cb, .agg envC] mdfRs) (hpF csrK)) (.tup [.one cu, .agg csrC, .one ci]) ft2
theorem mdf_tells : Tells Tryz.prog 182 [.agg csrC, .one ci, .one ci, .one ci, .one cu, .one cb, .agg envC] mdfRs csrK (.tup [.one cu, .agg csrC, .one ci]) ([U] ++ csrR ++ [R 20]) csrK1 mdfF := tells_of_run tab_ok mixed modOrc_ok (by decide) (by kernel_rfl) (by kernel_rfl) mdf_ran
noncomputable def mdfO : Orc := tellOrc 182 20 [.agg csrC, .one ci, .one ci, .one ci, .one cu, .one cb, .agg envC] mdfRs csrK (.tup [.one cu, .agg csrC, .one ci]) ([U] ++ csrR ++ [R 20]) csrK1
theorem mdfO_ok (X : Ext) (ft : Ft) (h : ft 20 = mdfF) : OrcOk Tryz.prog X ft mdfO := tellOrc_ok (by kernel_rfl) (by kernel_rfl) (by rw [h]; exact mdf_tells)
end Go.Proofs.YtkogjjeoihnjpaaGreat.Sx
end
