/- trap.Select, amo.Extend, effect.Reckon, alu.Branch told by functions on numbers. No condition. decode.Decode: told by a function on numbers. No condition. -/
import Derived.Test.YtkogjjeoihnjpaaGreatPack4
import Derived.Test.YtkogjjeoihnjpaaGreatPack8
import Derived.Test.YtkogjjeoihnjpaaGreatPack5
import Derived.KernelRfl
section
set_option linter.unusedVariables false
namespace Go.Proofs.YtkogjjeoihnjpaaGreat.Sx
open Go Go.RowKit
set_option maxRecDepth 100000
/-! ### trap.Select -/
def selRs : List (Int × Int) := hartR ++ envR
theorem sel_ran : ranB (xfn Tryz.prog tab.get noOrc 5000 100 38 (argsG [.agg hartC, .agg envC] selRs) (hpF [])) (.tup [.one cu, .one cb]) [U, BB] selRs [] = true := by kernel_rfl
noncomputable def selF : List Int → List Int := Fof (xfn Tryz.prog tab.get noOrc 5000 100 38 (argsG [.agg hartC, .agg envC] selRs) (hpF [])) (.tup [.one cu, .one cb]) (fun _ _ => [])
theorem sel_tells : Tells Tryz.prog 38 [.agg hartC, .agg envC] selRs [] (.tup [.one cu, .one cb]) [U, BB] [] selF := tells_of_run tab_ok mixed (noOrc_ok _ _ _) (by decide) (by kernel_rfl) (by kernel_rfl) sel_ran
noncomputable def selO : Orc := tellOrc 38 11 [.agg hartC, .agg envC] selRs [] (.tup [.one cu, .one cb]) [U, BB] []
theorem selO_ok (X : Ext) (ft : Ft) (h : ft 11 = selF) : OrcOk Tryz.prog X ft selO := tellOrc_ok (by kernel_rfl) (by kernel_rfl) (by rw [h]; exact sel_tells)
/-! ### amo.Extend -/
def extRs : List (Int × Int) := [U, R 8, BB]
theorem ext_ran : ranB (xfn Tryz.prog tab.get noOrc 5000 100 180 (argsG [.one cu, .one ci, .one cb] extRs) (hpF [])) (.one (.one cu)) [U] extRs [] = true := by kernel_rfl
noncomputable def extF : List Int → List Int := Fof (xfn Tryz.prog tab.get noOrc 5000 100 180 (argsG [.one cu, .one ci, .one cb] extRs) (hpF [])) (.one (.one cu)) (fun _ _ => [])
theorem ext_tells : Tells Tryz.prog 180 [.one cu, .one ci, .one cb] extRs [] (.one (.one cu)) [U] [] extF := tells_of_run tab_ok mixed (noOrc_ok _ _ _) (by decide) (by kernel_rfl) (by kernel_rfl) ext_ran
noncomputable def extO : Orc := tellOrc 180 12 [.one cu, .one ci, .one cb] extRs [] (.one (.one cu)) [U] []
theorem extO_ok (X : Ext) (ft : Ft) (h : ft 12 = extF) : OrcOk Tryz.prog X ft extO := tellOrc_ok (by kernel_rfl) (by kernel_rfl) (by rw [h]; exact ext_tells)
/-! ### effect.Reckon -/
def rckRs : List (Int × Int) := instR ++ [U, U, U]
theorem rck_ran : ranB (xfn Tryz.prog tab.get noOrc 5000 100 41 (argsG [.agg instC, .one cu, .one cu, .one cu] rckRs) (hpF [])) (.one (.one cu)) [U] rckRs [] = true := by kernel_rfl
noncomputable def rckF : List Int → List Int := Fof (xfn Tryz.prog tab.get noOrc 5000 100 41 (argsG [.agg instC, .one cu, .one cu, .one cu] rckRs) (hpF [])) (.one (.one cu)) (fun _ _ => [])
theorem rck_tells : Tells Tryz.prog 41 [.agg instC, .one cu, .one cu, .one cu] rckRs [] (.one (.one cu)) [U] [] rckF := tells_of_run tab_ok mixed (noOrc_ok _ _ _) (by decide) (by kernel_rfl) (by kernel_rfl) rck_ran
noncomputable def rckO : Orc := tellOrc 41 13 [.agg instC, .one cu, .one cu, .one cu] rckRs [] (.one (.one cu)) [U] []
theorem rckO_ok (X : Ext) (ft : Ft) (h : ft 13 = rckF) : OrcOk Tryz.prog X ft rckO := tellOrc_ok (by kernel_rfl) (by kernel_rfl) (by rw [h]; exact rck_tells)
/-! ### alu.Branch -/
def brnRs : List (Int × Int) := [R 31, U, U]
theorem brn_ran : ranB (xfn Tryz.prog tab.get noOrc 5000 100 177 (argsG [.one ci, .one cu, .one cu] brnRs) (hpF [])) (.one (.one cb)) [BB] brnRs [] = true := by kernel_rfl
noncomputable def brnF : List Int → List Int := Fof (xfn Tryz.prog tab.get noOrc 5000 100 177 (argsG [.one ci, .one cu, .one cu] brnRs) (hpF [])) (.one (.one cb)) (fun _ _ => [])
theorem brn_tells : Tells Tryz.prog 177 [.one ci, .one cu, .one cu] brnRs [] (.one (.one cb)) [BB] [] brnF := tells_of_run tab_ok mixed (noOrc_ok _ _ _) (by decide) (by kernel_rfl) (by kernel_rfl) brn_ran
noncomputable def brnO : Orc := tellOrc 177 14 [.one ci, .one cu, .one cu] brnRs [] (.one (.one cb)) [BB] []
theorem brnO_ok (X : Ext) (ft : Ft) (h : ft 14 = brnF) : OrcOk Tryz.prog X ft brnO := tellOrc_ok (by kernel_rfl) (by kernel_rfl) (by rw [h]; exact brn_tells)
end Go.Proofs.YtkogjjeoihnjpaaGreat.Sx
end
section
set_option linter.unusedVariables false
namespace Go.Proofs.YtkogjjeoihnjpaaGreat.Sx
open Go Go.RowKit
set_option maxRecDepth 100000
/-! ### decode.Decode -/
def decRs : List (Int × Int) := [U32]
/-- an access to a control register: what the word is (number 11) -/
def decK : Ks := [
  (.ite (.cmp .neq (.var (.ofNat 0) (.ofNat 22) 0) (ln 19)) (.tt true) (.cmp .eql (.pl .rem (.var (.ofNat 0) (.ofNat 4294967295) 11) (ln 128)) (ln 115)), true),
  (.ite (.cmp .neq (.var (.ofNat 0) (.ofNat 22) 0) (ln 19)) (.tt true) (.cmp .neq (.pl .rem (.pl .quo (.var (.ofNat 0) (.ofNat 4294967295) 11) (ln 4096)) (ln 4)) (ln 0)), true),
  (.ite (.cmp .neq (.var (.ofNat 0) (.ofNat 22) 0) (ln 19)) (.tt true) (.ite (.cmp .neq (.var (.ofNat 0) (.ofNat 4095) 10) (ln 2818)) (.tt true) (.cmp .eql (.pl .quo (.var (.ofNat 0) (.ofNat 4294967295) 11) (ln 1048576)) (ln 2818))), true)]
theorem dec_ran : ranB (xfn Tryz.prog tab.get noOrc 5000 100 40 (argsG [.one cw] decRs) (hpF [])) (.one (.agg instC)) instR decRs decK = true := by kernel_rfl
noncomputable def decF : List Int → List Int := Fof (xfn Tryz.prog tab.get noOrc 5000 100 40 (argsG [.one cw] decRs) (hpF [])) (.one (.agg instC)) (fun _ _ => [])
theorem dec_tells : Tells Tryz.prog 40 [.one cw] decRs [] (.one (.agg instC)) instR decK decF := tells_of_run tab_ok mixed (noOrc_ok _ _ _) (by decide) (by kernel_rfl) (by kernel_rfl) dec_ran
noncomputable def decO : Orc := tellOrc 40 16 [.one cw] decRs [] (.one (.agg instC)) instR decK
theorem decO_ok (X : Ext) (ft : Ft) (h : ft 16 = decF) : OrcOk Tryz.prog X ft decO := tellOrc_ok (by kernel_rfl) (by kernel_rfl) (by rw [h]; exact dec_tells)
end Go.Proofs.YtkogjjeoihnjpaaGreat.Sx
end
