/- Pseudo-LRU trees as numbers (no walk), and their functions' contracts. No condition. -/
import Derived.Test.YtlcedcjcecahoaaBits
import Derived.StillTailTactics
import Derived.BigRegion
import Derived.Deep.RegionWith
import Derived.Deep.QuietTactic
import Derived.BigQuiet
import Derived.Deep.LoopGhost
import Derived.Deep.DeepCutAuto
import Derived.Deep.DeepFit
import Derived.Deep.DeepMust
import Derived.Handy
set_option linter.unusedVariables false
set_option linter.unusedSimpArgs false
namespace Go.Proofs.Ytlcedcjcecahoaa
open Go.RowKit
/-- how deep a tree of m ways is -/
def lvl (m : Nat) : Nat := if m = 2 then 1 else if m = 4 then 2 else if m = 8 then 3 else 0
def vnode (s : Nat) : Nat → Nat
  | 0 => 1
  | k + 1 => 2 * vnode s k + s / 2 ^ (vnode s k - 1) % 2
/-- the way that the bits point to -/
def victim (m s : Nat) : Nat := vnode s (lvl m) - m
theorem vnode_hi (s : Nat) : ∀ k, 2 ^ k ≤ vnode s k ∧ vnode s k < 2 ^ (k + 1)
  | 0 => by simp [vnode]
  | k + 1 => by
    have := vnode_hi s k
    unfold vnode
    rw [Nat.pow_succ, Nat.pow_succ 2 (k + 1)]
    omega
def Ways (m : Nat) : Prop := m = 2 ∨ m = 4 ∨ m = 8
theorem Ways.lvl {m : Nat} (h : Ways m) : m = 2 ^ lvl m := by rcases h with rfl | rfl | rfl <;> rfl
theorem victim_lt {m s : Nat} (h : Ways m) : victim m s < m := by
  have h1 := vnode_hi s (lvl m)
  have h2 := h.lvl
  unfold victim
  rw [Nat.pow_succ, ← h2] at h1
  omega
/-- the state behind a touch of node nd: k levels up -/
def touchN (s nd : Nat) : Nat → Nat
  | 0 => s
  | k + 1 =>
    let b := 2 ^ (nd / 2 - 1)
    let s1 := if s / b % 2 = 1 then s - b else s
    touchN (if nd % 2 = 0 then s1 + b else s1) (nd / 2) k
def touched (m s i : Nat) : Nat := touchN s (i + m) (lvl m)
def chk2 (m : Nat) : Bool := (List.range (2 ^ (m - 1))).all fun s => (List.range m).all fun i => decide (touched m s i < 2 ^ (m - 1)) && decide (victim m (touched m s i) ≠ i)
theorem chk_2 : chk2 2 = true := by decide +kernel
theorem chk_4 : chk2 4 = true := by decide +kernel
theorem chk_8 : chk2 8 = true := by decide +kernel
theorem touched_ok {m s i : Nat} (h : Ways m) (hs : s < 2 ^ (m - 1)) (hi : i < m) : touched m s i < 2 ^ (m - 1) ∧ victim m (touched m s i) ≠ i := by
  have hc : chk2 m = true := by rcases h with rfl | rfl | rfl; exact chk_2; exact chk_4; exact chk_8
  have h1 := List.all_eq_true.1 hc s (List.mem_range.2 hs)
  have h2 := List.all_eq_true.1 h1 i (List.mem_range.2 hi)
  simpa using h2
/-- one step towards the leaf, as the program reckons it -/
def chkV : Bool := (List.range 128).all fun s => (List.range 8).all fun n => n == 0 || bits .or .i64 ((n : Int) * 2) (bits .and .i64 ((s : Int) / 2 ^ (n - 1)) 1) == ((2 * n + s / 2 ^ (n - 1) % 2 : Nat) : Int)
theorem chk_V : chkV = true := by decide +kernel
theorem vstep {s n : Nat} (hs : s < 128) (h0 : 0 < n) (hn : n < 8) : bits .or .i64 ((n : Int) * 2) (bits .and .i64 ((s : Int) / 2 ^ (n - 1)) 1) = ((2 * n + s / 2 ^ (n - 1) % 2 : Nat) : Int) := by
  have h1 := List.all_eq_true.1 chk_V s (List.mem_range.2 hs)
  have h2 := List.all_eq_true.1 h1 n (List.mem_range.2 hn)
  simp only [Bool.or_eq_true, beq_iff_eq] at h2
  rcases h2 with h2 | h2
  · omega
  · exact h2
set_option maxRecDepth 100000 in
theorem plru_levels {m : Nat} (h : Ways m) (w : World) : Calls Try.prog 46 #[.int .i64 m] w fun e w' => e = .returned (.int .i64 (lvl m : Nat)) ∧ w = w' := by
  rcases h with rfl | rfl | rfl
  all_goals
    go_enter Try.func46, Try.ntmps46
    go_wp2
    go_rounds 4
    go_ret
    exact ⟨rfl, rfl⟩
set_option maxRecDepth 100000 in
theorem plru_may {m s : Nat} (h : Ways m) (hs : s < 2 ^ (m - 1)) (w : World) : Calls Try.prog 25 #[.int .i64 s, .int .i64 m] w fun e w' => e = .returned (.bool true) ∧ w = w' := by
  have HL := Lib.hid (plru_levels h w)
  have h0 : (0 : Int) ≤ (s : Int) := by omega
  rcases h with rfl | rfl | rfl
  all_goals
    have h1 : (s : Int) < 128 := by simp at hs; omega
    have h2 := Int.ofNat_lt.2 hs
    simp at h2
    clear hs
    go_enter Try.func25, Try.ntmps25
    go_wp2_with fail
    refine HL.out.mono ?_
    rintro e w' ⟨rfl, rfl⟩
    simp only [lvl]
    go_wp2
    go_ret
    exact ⟨rfl, rfl⟩
set_option maxRecDepth 100000 in
set_option maxHeartbeats 1000000 in
theorem plru_victim {m s : Nat} (h : Ways m) (hs : s < 2 ^ (m - 1)) (w : World) : Calls Try.prog 32 #[.int .i64 s, .int .i64 m] w fun e w' => e = .returned (.int .i64 (victim m s : Nat)) ∧ w = w' := by
  have HL := Lib.hid (plru_levels h w)
  have HM := Lib.hid (plru_may h hs w)
  have hs8 : s < 128 := Nat.lt_of_lt_of_le hs (by rcases h with rfl | rfl | rfl <;> simp)
  have h0 : (0 : Int) ≤ (s : Int) := by omega
  have HV := Lib.hid (fun (n : Nat) (h0 : 0 < n) (hn : n < 8) => vstep hs8 h0 hn)
  have HN := Lib.hid (vnode_hi s)
  have hl : lvl m ≤ 3 := by rcases h with rfl | rfl | rfl <;> simp [lvl]
  have HF := Lib.hid (show m ≤ vnode s (lvl m) ∧ vnode s (lvl m) - m = victim m s from ⟨by have := (vnode_hi s (lvl m)).1; rw [← h.lvl] at this; exact this, rfl⟩)
  have HP := Lib.hid (show ∀ k, k < lvl m → vnode s k < 8 from fun k hk => by
    have := (vnode_hi s k).2
    have h2 : (2 : Nat) ^ (k + 1) ≤ 2 ^ 3 := Nat.pow_le_pow_right (by omega) (by omega)
    omega)
  have hl : (lvl m : Int) ≤ 3 := by omega
  generalize lvl m = L at *
  clear h hs hs8
  go_enter Try.func32, Try.ntmps32
  go_wp2_with fail
  refine HM.out.mono ?_
  rintro e w' ⟨rfl, rfl⟩
  go_wp2_with fail
  refine HL.out.mono ?_
  rintro e w' ⟨rfl, rfl⟩
  go_wp2_with fail
  go_loop [5, 12] (fun n i => ∃ k : Nat, (k : Int) ≤ L ∧ i = .int .i64 k ∧ n = .int .i64 (vnode s k : Nat)) (fun _ i => 3 - (intOf i).toNat)
  case atStart => exact ⟨0, by omega, rfl, rfl⟩
  case round =>
    obtain ⟨k, hk, rfl, rfl⟩ := hrel
    by_cases hlt : (k : Int) < L
    · have h8 := HP.out k (by omega)
      have h1 := (HN.out k).1
      have hp : 0 < (2 : Nat) ^ k := Nat.pow_pos (by omega)
      have HST := Lib.hid (HV.out (vnode s k) (by omega) h8)
      have HVN := Lib.hid (show vnode s (k + 1) = 2 * vnode s k + s / 2 ^ (vnode s k - 1) % 2 from rfl)
      have g1 : (1 : Int) ≤ (vnode s k : Int) := by omega
      have g2 : (vnode s k : Int) < 8 := by omega
      clear h8 h1 hp
      generalize hv : vnode s k = v at *
      clear hv
      go_wp2_with fail
      exact ⟨⟨k + 1, by omega, by rw [Int.natCast_succ], by rw [HST.out, HVN.out]⟩, by simp [intOf]; omega⟩
    · obtain rfl : k = L := by omega
      have HFF := Lib.hid HF.out
      have HX : Hid (∀ k0, k0 = k → vnode s k < 2 ^ (k + 1)) := fun _ _ => (HN.out k).2
      have HX : Hid (Nat → vnode s k < 2 ^ (k + 1)) := fun _ => (HN.out k).2
      generalize vnode s k = v at *
      have g2 : (m : Int) ≤ v := by have := HFF.out.1; omega
      have hk3 : k ≤ 3 := by omega
      have g3 : (v : Int) < 16 := by
        have h1 := HX.out k
        have h2 : (2 : Nat) ^ (k + 1) ≤ 2 ^ 4 := Nat.pow_le_pow_right (by omega) (by omega)
        omega
      clear hk3
      go_wp2_with fail
      go_ret
      exact ⟨ret_int (by have := HFF.out.2; omega), rfl⟩
/-- one level up, as the program reckons it -/
def upN (s nd : Nat) : Nat :=
  let b := 2 ^ (nd / 2 - 1)
  let s1 := if s / b % 2 = 1 then s - b else s
  if nd % 2 = 0 then s1 + b else s1
def chkT : Bool := (List.range 128).all fun s => (List.range 16).all fun n => n ≤ 1 || (decide (bits .and .i64 (n : Int) 1 = ((n % 2 : Nat) : Int)) && decide (upN s n < 128) && (if n % 2 = 0 then bits .or .i64 (bits .andNot .i64 (s : Int) (wrap64 (2 ^ (n / 2 - 1)))) (wrap64 (2 ^ (n / 2 - 1))) == (upN s n : Int) else bits .andNot .i64 (s : Int) (wrap64 (2 ^ (n / 2 - 1))) == (upN s n : Int)))
theorem chk_T : chkT = true := by decide +kernel
theorem upstep {s n : Nat} (hs : s < 128) (h0 : 1 < n) (hn : n < 16) : bits .and .i64 (n : Int) 1 = ((n % 2 : Nat) : Int) ∧ upN s n < 128 ∧ (n % 2 = 0 → bits .or .i64 (bits .andNot .i64 (s : Int) (wrap64 (2 ^ (n / 2 - 1)))) (wrap64 (2 ^ (n / 2 - 1))) = (upN s n : Int)) ∧ (n % 2 = 1 → bits .andNot .i64 (s : Int) (wrap64 (2 ^ (n / 2 - 1))) = (upN s n : Int)) := by
  have h1 := List.all_eq_true.1 chk_T s (List.mem_range.2 hs)
  have h2 := List.all_eq_true.1 h1 n (List.mem_range.2 hn)
  simp only [Bool.or_eq_true, Bool.and_eq_true, decide_eq_true_eq] at h2
  rcases h2 with h2 | ⟨⟨h1, h2⟩, h3⟩
  · omega
  · refine ⟨h1, h2, fun e => ?_, fun e => ?_⟩
    · rw [if_pos e] at h3; simpa using h3
    · rw [if_neg (by omega)] at h3; simpa using h3
theorem touchN_succ (s nd k : Nat) : touchN s nd (k + 1) = touchN (upN s nd) (nd / 2) k := rfl
set_option maxRecDepth 100000 in
set_option maxHeartbeats 1000000 in
theorem plru_touch {m s i : Nat} (h : Ways m) (hs : s < 2 ^ (m - 1)) (hi : i < m) (w : World) : Calls Try.prog 50 #[.int .i64 s, .int .i64 m, .int .i64 i] w fun e w' => e = .returned (.int .i64 (touched m s i : Nat)) ∧ w = w' := by
  have HM := Lib.hid (plru_may h hs w)
  have hs8 : s < 128 := Nat.lt_of_lt_of_le hs (by rcases h with rfl | rfl | rfl <;> simp)
  have h0 : (0 : Int) ≤ (s : Int) := by omega
  have HV := Lib.hid (fun (s n : Nat) (hs : s < 128) (h0 : 1 < n) (hn : n < 16) => upstep hs h0 hn)
  have h8 : (m : Int) ≤ 8 := by rcases h with rfl | rfl | rfl <;> omega
  have hi2 : (i : Int) < m := by omega
  have hst : Hid (∃ k, lvl m = k ∧ touchN s (i + m) k = touched m s i ∧ 2 ^ k ≤ i + m ∧ i + m < 2 ^ (k + 1)) := ⟨lvl m, rfl, rfl, by rw [← h.lvl]; omega, by rw [Nat.pow_succ, ← h.lvl]; omega⟩
  have HS8 := Lib.hid hs8
  have e1 : decide ((i : Int) < 0) = false := by simp only [decide_eq_false_iff_not]; omega
  have e2 : decide ((i : Int) ≥ m) = false := by simp only [decide_eq_false_iff_not]; omega
  clear h hs hs8 hi
  go_enter Try.func50, Try.ntmps50
  go_wp2_with fail
  refine HM.out.mono ?_
  rintro e w' ⟨rfl, rfl⟩
  go_wp2_with fail
  go_loop [0, 7] (fun t n => ∃ u nd k : Nat, t = .int .i64 u ∧ n = .int .i64 nd ∧ u < 128 ∧ touchN u nd k = touched m s i ∧ 2 ^ k ≤ nd ∧ nd < 2 ^ (k + 1) ∧ (nd : Int) < 16) (fun _ n => (intOf n).toNat)
  case atStart =>
    obtain ⟨k, _, h1, h2, h3⟩ := hst.out
    exact ⟨s, i + m, k, rfl, rfl, HS8.out, h1, h2, h3, by omega⟩
  case round =>
    obtain ⟨u, nd, k, rfl, rfl, hu, ht, h2, h3, hnd⟩ := hrel
    have HT := Lib.hid ht
    by_cases hlt : (1 : Int) < nd
    · obtain ⟨qb, q1, q2, q3⟩ := HV.out u nd hu (by omega) (by omega)
      have Q2 := Lib.hid q2; have Q3 := Lib.hid q3; have Q1 := Lib.hid q1
      have H23 := Lib.hid (And.intro h2 h3)
      clear q1 q2 q3 hu ht h2 h3
      have hn0 : (0 : Int) ≤ nd := by omega
      obtain ⟨k, rfl⟩ : ∃ j, k = j + 1 := ⟨k - 1, by have := H23.out.2; cases k with | zero => simp at this; omega | succ k => rfl⟩
      have fin : ∀ (x : Int), x = (upN u nd : Int) → (∃ u_1 nd_1 k : Nat, Value.int IntKind.i64 x = Value.int IntKind.i64 ↑u_1 ∧ Value.int IntKind.i64 (↑nd / 2) = Value.int IntKind.i64 ↑nd_1 ∧ u_1 < 128 ∧ touchN u_1 nd_1 k = touched m s i ∧ 2 ^ k ≤ nd_1 ∧ nd_1 < 2 ^ (k + 1) ∧ (nd_1 : Int) < 16) ∧
          (intOf (Value.int IntKind.i64 (↑nd / 2))).toNat < (intOf (Value.int IntKind.i64 ↑nd)).toNat := fun x hx => by
        have h2 := H23.out
        rw [Nat.pow_succ, Nat.pow_succ 2 (k + 1)] at h2
        refine ⟨⟨upN u nd, nd / 2, k, by rw [hx], by rw [Int.natCast_ediv]; rfl, Q1.out, by rw [← touchN_succ]; exact HT.out, by omega, by omega, by omega⟩, by simp [intOf]; omega⟩
      have FIN := Lib.hid fin
      clear fin
      rcases Nat.mod_two_eq_zero_or_one nd with hp | hp
      · rw [hp] at qb
        have qb : bits .and .i64 (nd : Int) 1 = 0 := qb
        have HPP := Lib.hid hp
        clear hp
        go_wp2_with fail
        exact FIN.out _ (Q2.out HPP.out)
      · rw [hp] at qb
        have qb : bits .and .i64 (nd : Int) 1 = 1 := qb
        have HPP := Lib.hid hp
        clear hp
        go_wp2_with fail
        exact FIN.out _ (Q3.out HPP.out)
    · have hk0 : k = 0 := by
        rcases k with _ | k
        · rfl
        · have := Nat.pow_pos (a := 2) (n := k) (by omega)
          rw [Nat.pow_succ] at h2
          omega
      subst hk0
      have HTT : Hid (u = touched m s i) := HT.out
      clear ht h2 h3
      go_wp2_with fail
      go_ret
      exact ⟨ret_int (by rw [HTT.out]), rfl⟩
end Go.Proofs.Ytlcedcjcecahoaa
