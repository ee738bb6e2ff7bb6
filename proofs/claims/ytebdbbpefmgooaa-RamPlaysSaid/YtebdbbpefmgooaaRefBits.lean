/- The reference of bits: bit, may, Field, Bytes, Word. No condition. -/
import Derived.Test.YtebdbbpefmgooaaWordN
import Derived.StillTailTactics
import Derived.BigRegion
import Derived.Deep.RegionWith
import Derived.Deep.RegionHeld3
import Derived.Deep.QuietTactic
import Derived.BigQuiet
import Derived.Deep.LoopGhost
import Derived.Deep.DeepCutAuto
import Derived.Deep.DeepFit
import Derived.Deep.DeepMust
import Derived.Handy
set_option linter.unusedVariables false
set_option linter.unusedSimpArgs false
namespace Go.Proofs.Ytebdbbpefmgooaa
open Go.RowKit
set_option maxRecDepth 100000 in
set_option maxHeartbeats 1000000 in
theorem ref_bit (v k : Nat) (hv : v < 2 ^ 64) (hk : (k : Int) ≤ 63) (w : World) : Calls Try.prog 92 #[.int .u64 v, .int .i64 k] w fun e w' => e = .returned (.bool (decide (v / 2 ^ k % 2 = 1))) ∧ w = w' := by
  have hw : IntKind.u64.wrap (k : Int) = k := by rw [IntKind.wrap_u64]; omega
  have hb : bits .and .u64 ((v : Int) / 2 ^ k) 1 = ((v / 2 ^ k % 2 : Nat) : Int) := by
    have := u64_and_nat (v / 2 ^ k) 1 (Nat.lt_of_le_of_lt (Nat.div_le_self _ _) hv) (by omega)
    rw [show ((1 : Nat) : Int) = 1 from rfl, Int.natCast_ediv, Int.natCast_pow, show ((2 : Nat) : Int) = 2 from rfl] at this
    rw [this, Nat.and_one_is_mod]
  generalize v / 2 ^ k % 2 = q at *
  clear hv
  go_enter Try.func92, Try.ntmps92
  go_wp2_with fail
  go_ret
  exact ⟨ret_bool (by rw [Bool.eq_iff_iff]; simp; omega), rfl⟩
set_option maxRecDepth 100000 in
set_option maxHeartbeats 1000000 in
theorem ref_may01 (hi lo : Int) (h0 : 0 ≤ lo) (h1 : lo ≤ hi) (h2 : hi ≤ 63) (w : World) : Calls Try.prog 91 #[.int .i64 hi, .int .i64 lo] w fun e w' => e = .returned (.bool true) ∧ w = w' := by
  go_enter Try.func91, Try.ntmps91
  go_wp2_with fail
  go_ret
  exact ⟨rfl, rfl⟩
/-- the highest j of the bits lo .. lo + d -/
def hiBits (v lo d j : Nat) : Nat := v / 2 ^ (lo + d + 1 - j) % 2 ^ j
theorem hiBits_step (v lo d j : Nat) (h : j ≤ lo + d) : hiBits v lo d (j + 1) = hiBits v lo d j * 2 + v / 2 ^ (lo + d - j) % 2 := by
  unfold hiBits
  have e1 : lo + d + 1 - (j + 1) = lo + d - j := by omega
  have e2 : lo + d + 1 - j = (lo + d - j) + 1 := by omega
  rw [e1, e2, Nat.pow_succ 2 j, Nat.mul_comm (2 ^ j) 2, Nat.mod_mul, Nat.pow_succ 2 (lo + d - j), ← Nat.div_div_eq_div_mul]
  omega
theorem hiBits_lt (v lo d j : Nat) : hiBits v lo d j < 2 ^ j := Nat.mod_lt _ (Nat.pow_pos (by omega))
set_option maxRecDepth 100000 in
set_option maxHeartbeats 2000000 in
theorem ref_field (v lo d : Nat) (hv : v < 2 ^ 64) (hd : (lo : Int) + d ≤ 63) (w : World) :
    Calls Try.prog 89 #[.int .u64 v, .int .i64 ((lo : Int) + d), .int .i64 lo] w fun e w' => e = .returned (.int .u64 (v / 2 ^ lo % 2 ^ (d + 1) : Nat)) ∧ w = w' := by
  have HV := Lib.hid hv
  have HS := Lib.hid (hiBits_step v lo d)
  have HLT := Lib.hid (hiBits_lt v lo d)
  have H0 := Lib.hid (show hiBits v lo d 0 = 0 by unfold hiBits; simp [Nat.mod_one])
  have HE := Lib.hid (show hiBits v lo d (d + 1) = v / 2 ^ lo % 2 ^ (d + 1) by unfold hiBits; rw [show lo + d + 1 - (d + 1) = lo by omega])
  clear hv
  generalize hiBits v lo d = F at *
  go_enter Try.func89, Try.ntmps89
  go_wp2_with fail
  go_loop [7, 8] (fun o i => ∃ j : Nat, (j : Int) ≤ d + 1 ∧ i = .int .i64 ((lo : Int) + d - j) ∧ o = .int .u64 (F j : Nat)) (fun _ i => (intOf i + 1 - lo).toNat)
  case atStart => exact ⟨0, by omega, by simp, by rw [H0.out]; rfl⟩
  case round =>
    obtain ⟨j, hj, rfl, rfl⟩ := hrel
    go_wp2_with fail
    refine (ref_may01 _ _ (by omega) (by omega) (by omega) _).mono ?_
    rintro e w1 ⟨rfl, rfl⟩
    by_cases hlt : (j : Int) ≤ d
    · obtain ⟨t, ht⟩ := Int.eq_ofNat_of_zero_le (show 0 ≤ (lo : Int) + d - j by omega)
      have ht63 : (t : Int) ≤ 63 := by omega
      have hle : (lo : Int) ≤ t := by omega
      have HT := Lib.hid (show t = lo + d - j by omega)
      have HSJ := Lib.hid (HS.out j (by omega))
      rw [← HT.out] at HSJ
      have hF : (F j : Int) < 9223372036854775808 := by
        have h1 := HLT.out j
        have h2 : (2 : Nat) ^ j ≤ 2 ^ 63 := Nat.pow_le_pow_right (by omega) (by omega)
        omega
      rw [ht]
      go_wp2_with fail
      refine (ref_bit v t HV.out ht63 _).mono ?_
      rintro e w1 ⟨rfl, rfl⟩
      by_cases hb : v / 2 ^ t % 2 = 1
      · rw [decide_eq_true hb]
        have HB := Lib.hid hb
        clear hb
        go_wp2_with fail
        exact ⟨⟨j + 1, by omega, congrArg (Value.int .i64) (by omega), by rw [HSJ.out, HB.out]; exact congrArg (Value.int .u64) (by omega)⟩, by simp [intOf]; omega⟩
      · rw [decide_eq_false hb]
        have HB := Lib.hid (show v / 2 ^ t % 2 = 0 by omega)
        clear hb
        go_wp2_with fail
        exact ⟨⟨j + 1, by omega, congrArg (Value.int .i64) (by omega), by rw [HSJ.out, HB.out]; exact congrArg (Value.int .u64) (by omega)⟩, by simp [intOf]; omega⟩
    · obtain rfl : j = d + 1 := by omega
      go_wp2_with fail
      go_ret
      exact ⟨ret_int (by rw [HE.out]), rfl⟩
set_option maxRecDepth 100000 in
set_option maxHeartbeats 2000000 in
theorem ref_bytes (v : Nat) (hv : v < 2 ^ 64) (n : Nat) (hn : (n : Int) ≤ 8) (w : World) :
    Calls Try.prog 82 #[.int .u64 v, .int .i64 n] w (OwnSlice w n (numBytes v n)) := by
  have HB0 := Lib.hid (numBytes_snoc v)
  have HL := Lib.hid (show numBytes v 0 = [] from rfl)
  have HV := Lib.hid hv
  clear hv
  go_enter Try.func82, Try.ntmps82
  go_wp2_with fail
  go_loopw [5, 6] (fun s i wr => ∃ j : Nat, (j : Int) ≤ n ∧ i = .int .i64 j ∧ wr.ownsRow w.heap.size 5 1 s j ((numBytes v j).map (Value.int .u8)) ∧ Below w.heap.size w wr) (fun _ i _ => n - (intOf i).toNat)
  case atStart => exact ⟨0, by omega, rfl, by rw [HL.out]; exact World.ownsRow_nil _ _ _ _, Below.refl _ _⟩
  case round =>
    obtain ⟨j, hj, rfl, hown, hb⟩ := hrel
    have HW := Lib.hid hown
    have HBB := Lib.hid hb
    clear hown hb
    by_cases hlt : (j : Int) < n
    · clear hj
      have hj8 : (j : Int) < 8 := by omega
      obtain ⟨q, hq⟩ : ∃ q, v / 2 ^ (8 * j) % 2 ^ (7 + 1) = q := ⟨_, rfl⟩
      have HF := Lib.hid (fun wq => ref_field v (8 * j) 7 HV.out (by omega) wq)
      have HQ := Lib.hid (show v / 2 ^ (8 * j) % 256 = q from hq)
      rw [hq] at HF
      have hq2 : IntKind.u8.wrap (q : Int) = q := by rw [IntKind.wrap_u8]; have := HQ.out; omega
      have hz : Hid (w.heap.size ≤ (wr.alloc (.cells #[Value.int .u8 (q : Nat)] 5)).heap.size) := by have := HBB.out.size; show _ ≤ _; simp; omega
      have hone : Hid (∀ u ∈ [Value.int .u8 (q : Nat)], u.oneCell' = true) := by intro u hu; simp at hu; subst hu; rfl
      have e8 : ((8 * j : Nat) : Int) = 8 * (j : Int) := by omega
      rw [e8] at HF
      clear hq e8
      go_wp2_with fail
      refine (HF.out _).mono ?_
      rintro e w1 ⟨rfl, rfl⟩
      go_wp2_with (at_builtin; refine wpList_app rfl _ _ 23 rfl w.heap.size 5 (.int .u8 0) 1 Try.underlying23 A_info5 rfl _ j _ rfl (HW.out.alloc _) _ _ _ [Value.int .u8 (q : Nat)] rfl (src_one wr _ 5) hone.out (by omega) (by unfold maxLen; omega) hz.out ?_; intro v' w2 hown hg _; have HW2 := Lib.hid hown; have HG := Lib.hid hg; clear hown hg)
      all_goals
        refine ⟨⟨j + 1, by omega, by rw [Int.natCast_succ], ?_, ?_⟩, by simp [intOf]; omega⟩
        · rw [HB0.out, List.map_append, HQ.out]; exact HW2.out
        · exact own_base (HW.out.alloc _) HG.out (HBB.out.alloc HBB.out.size _) hz.out (Nat.le_refl _)
    · obtain rfl : j = n := by omega
      go_wp2_with fail
      go_ret
      exact ⟨_, rfl, HW.out, HBB.out⟩
end Go.Proofs.Ytebdbbpefmgooaa
