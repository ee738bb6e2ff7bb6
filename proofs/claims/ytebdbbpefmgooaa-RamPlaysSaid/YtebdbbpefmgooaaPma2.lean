/- Contracts of pma.Region, Cached, Offset. No condition. -/
import Derived.Test.YtebdbbpefmgooaaPma
import Derived.StillTailTactics
import Derived.BigRegion
import Derived.Deep.RegionWith
import Derived.Deep.RegionHeld3
import Derived.Deep.QuietTactic
import Derived.BigQuiet
import Derived.Deep.LoopGhost
import Derived.Deep.DeepCutAuto
import Derived.Deep.DeepFit
import Derived.Deep.DeepMust
import Derived.Handy
set_option linter.unusedVariables false
set_option linter.unusedSimpArgs false
namespace Go.Proofs.Ytebdbbpefmgooaa
open Go.RowKit
set_option maxRecDepth 100000 in
set_option maxHeartbeats 1000000 in
theorem pma_region (n : Nat) (h4 : 4 ≤ n) (h256 : n ≤ 256) (x : Int) (h0 : 0 ≤ x) (h1 : x < 18446744073709551616) (w : World) :
    Calls Try.prog 85 #[.int .i64 n, .int .u64 x] w fun e w' => e = .returned (.int .i64 (pmaFind n x).1) ∧ Below w.heap.size w w' := by
  have F := Lib.hid (pma_find n h4 h256 x h0 h1)
  clear h0 h1
  generalize hk : pmaFind n x = K at *
  have HK := Lib.hid hk
  clear hk
  go_enter Try.func85, Try.ntmps85
  go_wp2_with fail
  refine (F.out _).mono ?_
  rintro e w1 ⟨rfl, hb⟩
  rw [HK.out]
  have HB := Lib.hid hb
  clear hb
  go_wp2_with fail
  go_ret
  exact ⟨rfl, by have := HB.out; have hs := HB.out.size; go_grown⟩
set_option maxRecDepth 100000 in
set_option maxHeartbeats 1000000 in
theorem pma_offset (n : Nat) (h4 : 4 ≤ n) (h256 : n ≤ 256) (x : Int) (h0 : 0 ≤ x) (h1 : x < 18446744073709551616) (w : World) :
    Calls Try.prog 77 #[.int .i64 n, .int .u64 x] w fun e w' => e = .returned (.int .u64 (pmaFind n x).2.2.2) ∧ Below w.heap.size w w' := by
  have F := Lib.hid (pma_find n h4 h256 x h0 h1)
  clear h0 h1
  generalize hk : pmaFind n x = K at *
  have HK := Lib.hid hk
  clear hk
  go_enter Try.func77, Try.ntmps77
  go_wp2_with fail
  refine (F.out _).mono ?_
  rintro e w1 ⟨rfl, hb⟩
  rw [HK.out]
  have HB := Lib.hid hb
  clear hb
  go_wp2_with fail
  go_ret
  exact ⟨rfl, by have := HB.out; have hs := HB.out.size; go_grown⟩
/-- an address of memory -/
def isRam (n : Nat) (x : Int) : Bool := decide (2147483648 ≤ x ∧ x < 2147483648 + n * 4096)
theorem isRam_find (n : Nat) (x : Int) : decide ((pmaFind n x).1 = 5) = isRam n x := by
  unfold pmaFind isRam
  repeat' split
  all_goals simp
  all_goals omega
theorem isRam_off (n : Nat) (x : Int) (h : isRam n x = true) : (pmaFind n x).2.2.2 = x - 2147483648 := by
  unfold isRam at h
  simp only [decide_eq_true_eq] at h
  unfold pmaFind
  repeat (first | rfl | rw [if_pos (by omega)] | rw [if_neg (by omega)])
set_option maxRecDepth 100000 in
set_option maxHeartbeats 1000000 in
theorem pma_cached (n : Nat) (h4 : 4 ≤ n) (h256 : n ≤ 256) (x : Int) (h0 : 0 ≤ x) (h1 : x < 18446744073709551616) (w : World) :
    Calls Try.prog 76 #[.int .i64 n, .int .u64 x] w fun e w' => e = .returned (.bool (isRam n x)) ∧ Below w.heap.size w w' := by
  have F := Lib.hid (pma_region n h4 h256 x h0 h1)
  clear h0 h1
  have HK := Lib.hid (isRam_find n x)
  generalize (pmaFind n x).1 = K at *
  generalize isRam n x = R at *
  go_enter Try.func76, Try.ntmps76
  go_wp2_with fail
  refine (F.out _).mono ?_
  rintro e w1 ⟨rfl, hb⟩
  have HB := Lib.hid hb
  clear hb
  go_wp2_with fail
  go_ret
  exact ⟨ret_bool (by rw [← HK.out]; first | rfl | (simp; done) | (by_cases h : K = 5 <;> simp [h])), HB.out⟩
end Go.Proofs.Ytebdbbpefmgooaa
