/- A machine's translation of an access, told by a function on numbers. No condition. -/
import Derived.Test.YtkogjjeoihnjpaaGreatPack15
import Derived.Test.YtkogjjeoihnjpaaGreatPack13
import Derived.Test.YtkogjjeoihnjpaaGreatPack17
import Derived.KernelRfl
section
set_option linter.unusedVariables false
set_option linter.unusedSimpArgs false
namespace Go.Proofs.YtkogjjeoihnjpaaGreat.Sx
open Go Go.RowKit
set_option maxRecDepth 100000
noncomputable section
/-- the hart of what is asked may be -/
def wantK : Ks := [
  (.cmp .eql (.pl .add (.pl .rem (.pl .quo (vu 59) (ln 2)) (ln 2)) (.pl .mul (.pl .quo (vu 59) (ln 128)) (ln 2))) (ln 0), true),
  (.cmp .eql (.pl .rem (.pl .quo (vu 56) (ln 64)) (ln 144115188075855872)) (ln 0), true),
  (.cmp .eql (.pl .rem (.pl .quo (vu 50) (ln 64)) (ln 144115188075855872)) (ln 0), true),
  (.cmp .eql (.pl .rem (vu 55) (ln 4)) (ln 0), true),
  (.cmp .eql (.pl .rem (vu 49) (ln 4)) (ln 0), true),
  (.cmp .eql (.pl .quo (vu 53) (ln 128)) (ln 0), true),
  (.cmp .eql (.pl .quo (vu 47) (ln 128)) (ln 0), true),
  (.cmp .neq (.pl .rem (.pl .quo (vu 52) (ln 2)) (ln 2)) (ln 1), true),
  (.cmp .neq (.pl .rem (.pl .quo (vu 46) (ln 2)) (ln 2)) (ln 1), true),
  (.cmp .eql (.pl .add (.pl .add (.pl .add (.pl .rem (vu 45) (ln 2)) (.pl .mul (.pl .rem (.pl .quo (vu 45) (ln 4)) (ln 8)) (ln 2))) (.pl .mul (.pl .rem (.pl .quo (vu 45) (ln 64)) (ln 8)) (ln 16))) (.pl .mul (.pl .quo (vu 45) (ln 1024)) (ln 128))) (ln 0), true),
  (.cmp .eql (.pl .add (.pl .add (.pl .add (.pl .add (.pl .add (.pl .add (.pl .rem (vu 44) (ln 2)) (.pl .mul (.pl .rem (.pl .quo (vu 44) (ln 4)) (ln 2)) (ln 2))) (.pl .mul (.pl .rem (.pl .quo (vu 44) (ln 16)) (ln 2)) (ln 4))) (.pl .mul (.pl .rem (.pl .quo (vu 44) (ln 64)) (ln 2)) (ln 8))) (.pl .mul (.pl .rem (.pl .quo (vu 44) (ln 256)) (ln 2)) (ln 16))) (.pl .mul (.pl .rem (.pl .quo (vu 44) (ln 1024)) (ln 2)) (ln 32))) (.pl .mul (.pl .quo (vu 44) (ln 4096)) (ln 64))) (ln 0), true),
  (.cmp .eql (.pl .add (.pl .add (.pl .add (.pl .rem (vu 43) (ln 2)) (.pl .mul (.pl .rem (.pl .quo (vu 43) (ln 4)) (ln 8)) (ln 2))) (.pl .mul (.pl .rem (.pl .quo (vu 43) (ln 64)) (ln 8)) (ln 16))) (.pl .mul (.pl .quo (vu 43) (ln 1024)) (ln 128))) (ln 0), true),
  (.cmp .eql (.pl .add (.pl .add (.pl .rem (.pl .quo (vu 42) (ln 1024)) (ln 4)) (.pl .mul (.pl .rem (.pl .quo (vu 42) (ln 16384)) (ln 2)) (ln 4))) (.pl .mul (.pl .quo (vu 42) (ln 65536)) (ln 8))) (ln 0), true),
  (.cmp .eql (.pl .add (.pl .add (.pl .add (.pl .add (.pl .add (.pl .add (.pl .rem (vu 41) (ln 2)) (.pl .mul (.pl .rem (.pl .quo (vu 41) (ln 4)) (ln 2)) (ln 2))) (.pl .mul (.pl .rem (.pl .quo (vu 41) (ln 16)) (ln 2)) (ln 4))) (.pl .mul (.pl .rem (.pl .quo (vu 41) (ln 64)) (ln 2)) (ln 8))) (.pl .mul (.pl .rem (.pl .quo (vu 41) (ln 512)) (ln 4)) (ln 16))) (.pl .mul (.pl .rem (.pl .quo (vu 41) (ln 8192)) (ln 16)) (ln 64))) (.pl .mul (.pl .quo (vu 41) (ln 8388608)) (ln 1024))) (ln 0), true),
  (.cmp .eql (.pl .rem (.pl .quo (vu 41) (ln 2048)) (ln 4)) (ln 2), false),
  (.cmp .gtr (vu 66) (ln 5), false),
  (.cmp .gtr (vu 65) (ln 5), false),
  (.cmp .gtr (vu 64) (ln 5), false),
  (.cmp .gtr (vu 63) (ln 5), false),
  (.cmp .eql (.pl .rem (vu 72) (ln 8)) (ln 0), true),
  (.cmp .eql (vu 9) (ln 0), true),
  (.cmp .eql (.pl .rem (vu 7) (ln 4)) (ln 0), true),
  (.cmp .eql (.var (.ofNat 0) (.ofNat 3) 8) (ln 2), false),
  (.ite (.cmp .eql (.pl .quo (vu 58) (ln 1152921504606846976)) (ln 0)) (.tt true) (.cmp .eql (.pl .quo (vu 58) (ln 1152921504606846976)) (ln 8)), true),
  (.ite (.cmp .eql (.var (.ofNat 0) (.ofNat 1) 71) (ln 1)) (.tt true) (.cmp .eql (vu 72) (ln 0)), true)]


/-! ### translate -/
def trnOrcs : Orc := orcL [wordOrc 30 999, putOrc 48 999, pagesOrc 63 999, priO, onnO, chkO, mrkO, fltO, pmmO]
def ftT (ct : Nat → Nat) : Ft := fun i => if i = 1 then wordF ct else if i = 2 then errF else if i = 24 then priF else if i = 25 then onnF else if i = 26 then chkF else if i = 27 then mrkF else if i = 29 then fltF else if i = 30 then pmmF else fun _ => []
theorem px999 (b : Nat) : pxM b 999 = some (.pointer (some ⟨b, 0, none⟩)) := rfl
theorem trnOrcs_ok (b n : Nat) (ct : Nat → Nat) : OrcOk Tryz.prog (ramX b n ct (pxM b)) (ftT ct) trnOrcs := orcL_ok fun o ho => by
  simp only [List.mem_cons, List.not_mem_nil, or_false] at ho
  rcases ho with rfl | rfl | rfl | rfl | rfl | rfl | rfl | rfl | rfl
  · exact wordOrc_ok (px999 b) rfl
  · exact putOrc_ok (px999 b) rfl
  · exact pagesOrc_ok (px999 b)
  · exact priO_ok _ _ rfl
  · exact onnO_ok _ _ rfl
  · exact chkO_ok _ _ rfl
  · exact mrkO_ok _ _ rfl
  · exact fltO_ok _ _ rfl
  · exact pmmO_ok _ _ rfl
def remE (x : E) (n : Nat) : E := .bin .rem .u64 x (ln n)
/-- where a place is that no fault has -/
def trnK : Ks := atK (.cmp .neq (.var (.ofNat 0) (.ofNat 16) 1) (ln 0)) (vu 0) (.var (.ofNat 0) (.ofNat 8) 6) (.var (.ofNat 0) (.ofNat 3) 7) (.var (.ofNat 4) (.ofNat 256) 78) (.var (.ofNat 0) (.ofNat 1) 9) ++ [
  (impE (.cmp .neq (.var (.ofNat 0) (.ofNat 16) 1) (ln 0)) (impE (.cmp .neq (remE (vu 5) 2) (ln 0)) (.cmp .eql (remE (vu 0) 2) (ln 0))), true),
  (impE (.cmp .neq (.var (.ofNat 0) (.ofNat 16) 1) (ln 0)) (impE (.cmp .neq (remE (vu 5) 4) (ln 0)) (.cmp .eql (remE (vu 0) 4) (ln 0))), true),
  (impE (.cmp .neq (.var (.ofNat 0) (.ofNat 16) 1) (ln 0)) (impE (.cmp .neq (remE (vu 5) 8) (ln 0)) (.cmp .eql (remE (vu 0) 8) (ln 0))), true),
  (impE (.cmp .eql (.var (.ofNat 0) (.ofNat 16) 1) (ln 0)) (.cmp .eql (vu 0) (ln 0)), true)]
def trnT : XR := mrun trnOrcs 61 [.agg wantC] wnR []
def trnOrs : List (Int × Int) := [U, R 16, U, R 8, U]
theorem trn_ran : mranB trnT (.tup [.one cu, .one cu]) trnOrs wnR trnK 1 = true := by kernel_rfl
def trnF : (Nat → Nat) → List Int → List Int := MFof trnT (.tup [.one cu, .one cu]) 1 ftT
theorem trn_tells : MTells 61 [.agg wantC] wnR [] (.tup [.one cu, .one cu]) trnOrs trnK 1 trnF := mtells_of_run trnOrcs_ok (by decide) (by kernel_rfl) (by decide) (by kernel_rfl) trn_ran
def trnO : Orc := mtellOrc 61 34 999 [.agg wantC] wnR [] (.tup [.one cu, .one cu]) trnOrs trnK 1
theorem trnO_ok (b n : Nat) (ct : Nat → Nat) (ft : Ft) (h : ft 34 = mF trnF wnR.length ct) : OrcOk Tryz.prog (ramX b n ct (pxM b)) ft trnO := mtellOrc_ok (px999 b) (by kernel_rfl) (by kernel_rfl) (by decide) trn_tells h
end
end Go.Proofs.YtkogjjeoihnjpaaGreat.Sx
end
