/- A machine's access, told by a function on numbers. No condition. -/
import Derived.Test.YtkogjjeoihnjpaaGreatPack15
import Derived.KernelRfl
section
set_option linter.unusedVariables false
set_option linter.unusedSimpArgs false
namespace Go.Proofs.YtkogjjeoihnjpaaGreat.Sx
open Go Go.RowKit
set_option maxRecDepth 100000
noncomputable section
def accOrcs : Orc := orcL [putOrc 48 999, pagesOrc 63 999, loadOrc 65 999, mywO, mspO, trnO, devO, stoO, tolO]
def ftC (ct : Nat → Nat) : Ft := fun i => if i = 2 then errF else if i = 3 then loadF ct else if i = 35 then mywF else if i = 23 then mspF else if i = 34 then mF trnF wantR.length ct else if i = 31 then devF else if i = 32 then stoF else if i = 33 then tolF else fun _ => []
theorem accOrcs_ok (b n : Nat) (ct : Nat → Nat) : OrcOk Tryz.prog (ramX b n ct (pxM b)) (ftC ct) accOrcs := orcL_ok fun o ho => by
  simp only [List.mem_cons, List.not_mem_nil, or_false] at ho
  rcases ho with rfl | rfl | rfl | rfl | rfl | rfl | rfl | rfl | rfl
  · exact putOrc_ok (px999 b) (by simp [ftC])
  · exact pagesOrc_ok (px999 b)
  · exact loadOrc_ok (px999 b) (by simp [ftC])
  · exact mywO_ok _ _ (by simp [ftC])
  · exact mspO_ok _ _ (by simp [ftC])
  · exact trnO_ok b n ct _ (by simp [ftC])
  · exact devO_ok _ _ (by simp [ftC])
  · exact stoO_ok _ _ (by simp [ftC])
  · exact tolO_ok _ _ (by simp [ftC])
def accT : XR := mrun accOrcs 27 [.agg wantC] wantR wantK
def accOrs : List (Int × Int) := gotR ++ [U, R 8, U, U, R 8, U]
theorem acc_ran : mranB accT (.one (.agg gotC)) accOrs wantR [] 2 = true := by kernel_rfl
def accF : (Nat → Nat) → List Int → List Int := MFof accT (.one (.agg gotC)) 2 ftC
theorem acc_tells : MTells 27 [.agg wantC] wantR wantK (.one (.agg gotC)) accOrs [] 2 accF := mtells_of_run accOrcs_ok (by decide) (by kernel_rfl) (by decide) (by kernel_rfl) acc_ran
def accO : Orc := mtellOrc 27 22 999 [.agg wantC] wantR wantK (.one (.agg gotC)) accOrs [] 2
theorem accO_ok (b n : Nat) (ct : Nat → Nat) (ft : Ft) (h : ft 22 = mF accF wantR.length ct) : OrcOk Tryz.prog (ramX b n ct (pxM b)) ft accO := mtellOrc_ok (px999 b) (by kernel_rfl) (by kernel_rfl) (by decide) acc_tells h
end
end Go.Proofs.YtkogjjeoihnjpaaGreat.Sx
end
