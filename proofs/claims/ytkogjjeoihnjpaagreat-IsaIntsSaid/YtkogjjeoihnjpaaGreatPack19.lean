/- csr.mayRead, csr.value told by functions on numbers. No condition. -/
import Derived.Test.YtkogjjeoihnjpaaGreatPack4
import Derived.Test.YtkogjjeoihnjpaaGreatPack8
import Derived.Test.YtkogjjeoihnjpaaGreatPack5
import Derived.KernelRfl
section
set_option linter.unusedVariables false
namespace Go.Proofs.YtkogjjeoihnjpaaGreat.Sx
open Go Go.RowKit
set_option maxRecDepth 100000
/-! ### csr.mayRead -/
def mrdRs : List (Int × Int) := csrR ++ [R 4095, R 3]
theorem mrd_ran : ranB (xfn Tryz.prog tab.get noOrc 5000 100 245 (argsG [.agg csrC, .one ci, .one ci] mrdRs) (hpF [])) (.one (.one cb)) [BB] mrdRs [] = true := by kernel_rfl
noncomputable def mrdF : List Int → List Int := Fof (xfn Tryz.prog tab.get noOrc 5000 100 245 (argsG [.agg csrC, .one ci, .one ci] mrdRs) (hpF [])) (.one (.one cb)) (fun _ _ => [])
theorem mrd_tells : Tells Tryz.prog 245 [.agg csrC, .one ci, .one ci] mrdRs [] (.one (.one cb)) [BB] [] mrdF := tells_of_run tab_ok mixed (noOrc_ok _ _ _) (by decide) (by kernel_rfl) (by kernel_rfl) mrd_ran
noncomputable def mrdO : Orc := tellOrc 245 17 [.agg csrC, .one ci, .one ci] mrdRs [] (.one (.one cb)) [BB] []
theorem mrdO_ok (X : Ext) (ft : Ft) (h : ft 17 = mrdF) : OrcOk Tryz.prog X ft mrdO := tellOrc_ok (by kernel_rfl) (by kernel_rfl) (by rw [h]; exact mrd_tells)
/-! ### csr.value -/
def valRs : List (Int × Int) := csrR ++ [R 4095] ++ envR
theorem val_ran : ranB (xfn Tryz.prog tab.get noOrc 5000 100 247 (argsG [.agg csrC, .one ci, .agg envC] valRs) (hpF [])) (.one (.one cu)) [U] valRs [] = true := by kernel_rfl
noncomputable def valF : List Int → List Int := Fof (xfn Tryz.prog tab.get noOrc 5000 100 247 (argsG [.agg csrC, .one ci, .agg envC] valRs) (hpF [])) (.one (.one cu)) (fun _ _ => [])
theorem val_tells : Tells Tryz.prog 247 [.agg csrC, .one ci, .agg envC] valRs [] (.one (.one cu)) [U] [] valF := tells_of_run tab_ok mixed (noOrc_ok _ _ _) (by decide) (by kernel_rfl) (by kernel_rfl) val_ran
noncomputable def valO : Orc := tellOrc 247 18 [.agg csrC, .one ci, .agg envC] valRs [] (.one (.one cu)) [U] []
theorem valO_ok (X : Ext) (ft : Ft) (h : ft 18 = valF) : OrcOk Tryz.prog X ft valO := tellOrc_ok (by kernel_rfl) (by kernel_rfl) (by rw [h]; exact val_tells)
end Go.Proofs.YtkogjjeoihnjpaaGreat.Sx
end
