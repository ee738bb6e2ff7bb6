/- What an access is made of, told by functions on numbers. No condition. -/
import Derived.Test.YtkogjjeoihnjpaaGreatPack4
import Derived.Test.YtkogjjeoihnjpaaGreatPack8
import Derived.Test.YtkogjjeoihnjpaaGreatPack5
import Derived.KernelRfl
section
set_option linter.unusedVariables false
namespace Go.Proofs.YtkogjjeoihnjpaaGreat.Sx
open Go Go.RowKit
set_option maxRecDepth 100000
def pteC : List CK := [ci, cu, cu, cu, cu]
def pteR : List (Int × Int) := [R 2, U, U, U, U]
/-! ### isa.Misplaced -/
def mspRs : List (Int × Int) := wantR
theorem msp_ran : ranB (xfn Tryz.prog tab.get noOrc 5000 100 60 (argsG [.agg wantC] mspRs) (hpF [])) (.one (.one cu)) [R 7] mspRs [] = true := by kernel_rfl
noncomputable def mspF : List Int → List Int := Fof (xfn Tryz.prog tab.get noOrc 5000 100 60 (argsG [.agg wantC] mspRs) (hpF [])) (.one (.one cu)) (fun _ _ => [])
theorem msp_tells : Tells Tryz.prog 60 [.agg wantC] mspRs [] (.one (.one cu)) [R 7] [] mspF := tells_of_run tab_ok mixed (noOrc_ok _ _ _) (by decide) (by kernel_rfl) (by kernel_rfl) msp_ran
noncomputable def mspO : Orc := tellOrc 60 23 [.agg wantC] mspRs [] (.one (.one cu)) [R 7] []
theorem mspO_ok (X : Ext) (ft : Ft) (h : ft 23 = mspF) : OrcOk Tryz.prog X ft mspO := tellOrc_ok (by kernel_rfl) (by kernel_rfl) (by rw [h]; exact msp_tells)
/-! ### trap.Priv -/
def priRs : List (Int × Int) := hartR ++ [R 3]
theorem pri_ran : ranB (xfn Tryz.prog tab.get noOrc 5000 100 140 (argsG [.agg hartC, .one ci] priRs) (hpF [])) (.one (.one ci)) [R 3] priRs [] = true := by kernel_rfl
noncomputable def priF : List Int → List Int := Fof (xfn Tryz.prog tab.get noOrc 5000 100 140 (argsG [.agg hartC, .one ci] priRs) (hpF [])) (.one (.one ci)) (fun _ _ => [])
theorem pri_tells : Tells Tryz.prog 140 [.agg hartC, .one ci] priRs [] (.one (.one ci)) [R 3] [] priF := tells_of_run tab_ok mixed (noOrc_ok _ _ _) (by decide) (by kernel_rfl) (by kernel_rfl) pri_ran
noncomputable def priO : Orc := tellOrc 140 24 [.agg hartC, .one ci] priRs [] (.one (.one ci)) [R 3] []
theorem priO_ok (X : Ext) (ft : Ft) (h : ft 24 = priF) : OrcOk Tryz.prog X ft priO := tellOrc_ok (by kernel_rfl) (by kernel_rfl) (by rw [h]; exact pri_tells)
/-! ### walk.On -/
def onnRs : List (Int × Int) := [U, R 3]
theorem onn_ran : ranB (xfn Tryz.prog tab.get noOrc 5000 100 141 (argsG [.one cu, .one ci] onnRs) (hpF [])) (.one (.one cb)) [BB] onnRs [] = true := by kernel_rfl
noncomputable def onnF : List Int → List Int := Fof (xfn Tryz.prog tab.get noOrc 5000 100 141 (argsG [.one cu, .one ci] onnRs) (hpF [])) (.one (.one cb)) (fun _ _ => [])
theorem onn_tells : Tells Tryz.prog 141 [.one cu, .one ci] onnRs [] (.one (.one cb)) [BB] [] onnF := tells_of_run tab_ok mixed (noOrc_ok _ _ _) (by decide) (by kernel_rfl) (by kernel_rfl) onn_ran
noncomputable def onnO : Orc := tellOrc 141 25 [.one cu, .one ci] onnRs [] (.one (.one cb)) [BB] []
theorem onnO_ok (X : Ext) (ft : Ft) (h : ft 25 = onnF) : OrcOk Tryz.prog X ft onnO := tellOrc_ok (by kernel_rfl) (by kernel_rfl) (by rw [h]; exact onn_tells)
/-! ### walk.Check -/
def chkRs : List (Int × Int) := pteR ++ [R 3, R 3, BB, BB]
theorem chk_ran : ranB (xfn Tryz.prog tab.get noOrc 5000 100 145 (argsG [.agg pteC, .one ci, .one ci, .one cb, .one cb] chkRs) (hpF [])) (.one (.one cb)) [BB] chkRs [] = true := by kernel_rfl
noncomputable def chkF : List Int → List Int := Fof (xfn Tryz.prog tab.get noOrc 5000 100 145 (argsG [.agg pteC, .one ci, .one ci, .one cb, .one cb] chkRs) (hpF [])) (.one (.one cb)) (fun _ _ => [])
theorem chk_tells : Tells Tryz.prog 145 [.agg pteC, .one ci, .one ci, .one cb, .one cb] chkRs [] (.one (.one cb)) [BB] [] chkF := tells_of_run tab_ok mixed (noOrc_ok _ _ _) (by decide) (by kernel_rfl) (by kernel_rfl) chk_ran
noncomputable def chkO : Orc := tellOrc 145 26 [.agg pteC, .one ci, .one ci, .one cb, .one cb] chkRs [] (.one (.one cb)) [BB] []
theorem chkO_ok (X : Ext) (ft : Ft) (h : ft 26 = chkF) : OrcOk Tryz.prog X ft chkO := tellOrc_ok (by kernel_rfl) (by kernel_rfl) (by rw [h]; exact chk_tells)
/-! ### walk.Marks -/
def mrkRs : List (Int × Int) := pteR ++ [R 3]
theorem mrk_ran : ranB (xfn Tryz.prog tab.get noOrc 5000 100 146 (argsG [.agg pteC, .one ci] mrkRs) (hpF [])) (.tup [.one cu, .one cb]) [U, BB] mrkRs [] = true := by kernel_rfl
noncomputable def mrkF : List Int → List Int := Fof (xfn Tryz.prog tab.get noOrc 5000 100 146 (argsG [.agg pteC, .one ci] mrkRs) (hpF [])) (.tup [.one cu, .one cb]) (fun _ _ => [])
theorem mrk_tells : Tells Tryz.prog 146 [.agg pteC, .one ci] mrkRs [] (.tup [.one cu, .one cb]) [U, BB] [] mrkF := tells_of_run tab_ok mixed (noOrc_ok _ _ _) (by decide) (by kernel_rfl) (by kernel_rfl) mrk_ran
noncomputable def mrkO : Orc := tellOrc 146 27 [.agg pteC, .one ci] mrkRs [] (.tup [.one cu, .one cb]) [U, BB] []
theorem mrkO_ok (X : Ext) (ft : Ft) (h : ft 27 = mrkF) : OrcOk Tryz.prog X ft mrkO := tellOrc_ok (by kernel_rfl) (by kernel_rfl) (by rw [h]; exact mrk_tells)
/-! ### walk.Fault -/
def fltRs : List (Int × Int) := [R 3, BB]
theorem flt_ran : ranB (xfn Tryz.prog tab.get noOrc 5000 100 144 (argsG [.one ci, .one cb] fltRs) (hpF [])) (.one (.one cu)) [R 15] fltRs [] = true := by kernel_rfl
noncomputable def fltF : List Int → List Int := Fof (xfn Tryz.prog tab.get noOrc 5000 100 144 (argsG [.one ci, .one cb] fltRs) (hpF [])) (.one (.one cu)) (fun _ _ => [])
theorem flt_tells : Tells Tryz.prog 144 [.one ci, .one cb] fltRs [] (.one (.one cu)) [R 15] [] fltF := tells_of_run tab_ok mixed (noOrc_ok _ _ _) (by decide) (by kernel_rfl) (by kernel_rfl) flt_ran
noncomputable def fltO : Orc := tellOrc 144 29 [.one ci, .one cb] fltRs [] (.one (.one cu)) [R 15] []
theorem fltO_ok (X : Ext) (ft : Ft) (h : ft 29 = fltF) : OrcOk Tryz.prog X ft fltO := tellOrc_ok (by kernel_rfl) (by kernel_rfl) (by rw [h]; exact flt_tells)
/-! ### pma.May -/
def pmmRs : List (Int × Int) := [R 256, U, R 8, R 3, BB]
theorem pmm_ran : ranB (xfn Tryz.prog tab.get noOrc 5000 100 148 (argsG [.one ci, .one cu, .one ci, .one ci, .one cb] pmmRs) (hpF [])) (.one (.one cb)) [BB] pmmRs [] = true := by kernel_rfl
noncomputable def pmmF : List Int → List Int := Fof (xfn Tryz.prog tab.get noOrc 5000 100 148 (argsG [.one ci, .one cu, .one ci, .one ci, .one cb] pmmRs) (hpF [])) (.one (.one cb)) (fun _ _ => [])
theorem pmm_tells : Tells Tryz.prog 148 [.one ci, .one cu, .one ci, .one ci, .one cb] pmmRs [] (.one (.one cb)) [BB] [] pmmF := tells_of_run tab_ok mixed (noOrc_ok _ _ _) (by decide) (by kernel_rfl) (by kernel_rfl) pmm_ran
noncomputable def pmmO : Orc := tellOrc 148 30 [.one ci, .one cu, .one ci, .one ci, .one cb] pmmRs [] (.one (.one cb)) [BB] []
theorem pmmO_ok (X : Ext) (ft : Ft) (h : ft 30 = pmmF) : OrcOk Tryz.prog X ft pmmO := tellOrc_ok (by kernel_rfl) (by kernel_rfl) (by rw [h]; exact pmm_tells)
/-! ### pma.Device -/
def devRs : List (Int × Int) := [R 256, U]
theorem dev_ran : ranB (xfn Tryz.prog tab.get noOrc 5000 100 62 (argsG [.one ci, .one cu] devRs) (hpF [])) (.one (.one cb)) [BB] devRs [] = true := by kernel_rfl
noncomputable def devF : List Int → List Int := Fof (xfn Tryz.prog tab.get noOrc 5000 100 62 (argsG [.one ci, .one cu] devRs) (hpF [])) (.one (.one cb)) (fun _ _ => [])
theorem dev_tells : Tells Tryz.prog 62 [.one ci, .one cu] devRs [] (.one (.one cb)) [BB] [] devF := tells_of_run tab_ok mixed (noOrc_ok _ _ _) (by decide) (by kernel_rfl) (by kernel_rfl) dev_ran
noncomputable def devO : Orc := tellOrc 62 31 [.one ci, .one cu] devRs [] (.one (.one cb)) [BB] []
theorem devO_ok (X : Ext) (ft : Ft) (h : ft 31 = devF) : OrcOk Tryz.prog X ft devO := tellOrc_ok (by kernel_rfl) (by kernel_rfl) (by rw [h]; exact dev_tells)
/-! ### isa.Stored -/
def stoRs : List (Int × Int) := wantR ++ [U, U]
theorem sto_ran : ranB (xfn Tryz.prog tab.get noOrc 5000 100 64 (argsG [.agg wantC, .one cu, .one cu] stoRs) (hpF [])) (.tup [.one cu, .one cb]) [U, BB] stoRs [] = true := by kernel_rfl
noncomputable def stoF : List Int → List Int := Fof (xfn Tryz.prog tab.get noOrc 5000 100 64 (argsG [.agg wantC, .one cu, .one cu] stoRs) (hpF [])) (.tup [.one cu, .one cb]) (fun _ _ => [])
theorem sto_tells : Tells Tryz.prog 64 [.agg wantC, .one cu, .one cu] stoRs [] (.tup [.one cu, .one cb]) [U, BB] [] stoF := tells_of_run tab_ok mixed (noOrc_ok _ _ _) (by decide) (by kernel_rfl) (by kernel_rfl) sto_ran
noncomputable def stoO : Orc := tellOrc 64 32 [.agg wantC, .one cu, .one cu] stoRs [] (.tup [.one cu, .one cb]) [U, BB] []
theorem stoO_ok (X : Ext) (ft : Ft) (h : ft 32 = stoF) : OrcOk Tryz.prog X ft stoO := tellOrc_ok (by kernel_rfl) (by kernel_rfl) (by rw [h]; exact sto_tells)
/-! ### isa.Told -/
def tolRs : List (Int × Int) := wantR ++ [U, BB]
theorem tol_ran : ranB (xfn Tryz.prog tab.get noOrc 5000 100 66 (argsG [.agg wantC, .one cu, .one cb] tolRs) (hpF [])) (.one (.one cu)) [U] tolRs [] = true := by kernel_rfl
noncomputable def tolF : List Int → List Int := Fof (xfn Tryz.prog tab.get noOrc 5000 100 66 (argsG [.agg wantC, .one cu, .one cb] tolRs) (hpF [])) (.one (.one cu)) (fun _ _ => [])
theorem tol_tells : Tells Tryz.prog 66 [.agg wantC, .one cu, .one cb] tolRs [] (.one (.one cu)) [U] [] tolF := tells_of_run tab_ok mixed (noOrc_ok _ _ _) (by decide) (by kernel_rfl) (by kernel_rfl) tol_ran
noncomputable def tolO : Orc := tellOrc 66 33 [.agg wantC, .one cu, .one cb] tolRs [] (.one (.one cu)) [U] []
theorem tolO_ok (X : Ext) (ft : Ft) (h : ft 33 = tolF) : OrcOk Tryz.prog X ft tolO := tellOrc_ok (by kernel_rfl) (by kernel_rfl) (by rw [h]; exact tol_tells)
end Go.Proofs.YtkogjjeoihnjpaaGreat.Sx
end
