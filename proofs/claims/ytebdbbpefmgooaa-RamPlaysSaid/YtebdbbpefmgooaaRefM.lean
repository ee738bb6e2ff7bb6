/- The reference memory: New, in, place, At. No condition. -/
import Derived.Test.YtebdbbpefmgooaaRam6
import Derived.Deep.AppendLies
import Derived.StillTailTactics
import Derived.BigRegion
import Derived.Deep.RegionWith
import Derived.Deep.RegionHeld3
import Derived.Deep.QuietTactic
import Derived.BigQuiet
import Derived.Deep.LoopGhost
import Derived.Deep.DeepCutAuto
import Derived.Deep.DeepFit
import Derived.Deep.DeepMust
import Derived.Handy
set_option linter.unusedVariables false
set_option linter.unusedSimpArgs false
namespace Go.Proofs.Ytebdbbpefmgooaa
open Go.RowKit
/-- the cells that were written, flat -/
def flat (c : Nat → Int × Int) (m : Nat) : List Value := (List.range m).flatMap fun i => [Value.int .u64 (c i).1, .int .u8 (c i).2]
theorem flat_succ (c : Nat → Int × Int) (m : Nat) : flat c (m + 1) = flat c m ++ [Value.int .u64 (c m).1, .int .u8 (c m).2] := by simp [flat, List.range_succ]
theorem flat_len (c : Nat → Int × Int) : ∀ m, (flat c m).length = m * 2
  | 0 => rfl
  | m + 1 => by rw [flat_succ, List.length_append, flat_len c m]; simp; omega
theorem flat_congr {c d : Nat → Int × Int} : ∀ m, (∀ i, i < m → c i = d i) → flat c m = flat d m
  | 0, _ => rfl
  | m + 1, h => by rw [flat_succ, flat_succ, flat_congr m (fun i hi => h i (by omega)), h m (by omega)]
theorem flat_get (c : Nat → Int × Int) : ∀ (m i : Nat), i < m → (flat c m)[i * 2]? = some (.int .u64 (c i).1) ∧ (flat c m)[i * 2 + 1]? = some (.int .u8 (c i).2)
  | 0, i, h => by omega
  | m + 1, i, h => by
    rw [flat_succ]
    have hl := flat_len c m
    by_cases hi : i < m
    · obtain ⟨h1, h2⟩ := flat_get c m i hi
      rw [List.getElem?_append_left (by omega), List.getElem?_append_left (by omega)]
      exact ⟨h1, h2⟩
    · obtain rfl : i = m := by omega
      rw [List.getElem?_append_right (by omega), List.getElem?_append_right (by omega), hl]
      simp
/-- what was written last at x, among the first m -/
def lkTo (c : Nat → Int × Int) (x : Int) : Nat → Int
  | 0 => 0
  | m + 1 => if (c m).1 = x then (c m).2 else lkTo c x m
/-- block wb is the reference's memory of n pages: the m cells c, in the slice v -/
structure RefRam (w : World) (B wb n : Nat) (v : Value) (c : Nat → Int × Int) (m : Nat) : Prop where
  at_ : w.heap[wb]? = some (.cells #[.int .i64 n, v] 97 (0, 0))
  own : w.ownsRow B 132 2 v m (flat c m)
  ge : B ≤ wb
  bd : ∀ i, i < m → 0 ≤ (c i).2 ∧ (c i).2 ≤ 255
  max : (m : Int) ≤ 100000000
set_option maxRecDepth 100000 in
set_option maxHeartbeats 1000000 in
theorem refm_new (n : Nat) (h4 : (4 : Int) ≤ n) (h256 : (n : Int) ≤ 256) (w : World) : Calls Try.prog 48 #[.int .i64 n] w fun e w' => e = .returned (.tuple #[.pointer (some ⟨w.heap.size, 0, none⟩), .int .i64 0]) ∧ w' = w.alloc (.cells #[.int .i64 n, .slice none 0 0] 97) := by
  go_enter Try.func48, Try.ntmps48
  go_wp2_with fail
  go_ret2
  exact ⟨rfl, rfl⟩
set_option maxRecDepth 100000 in
set_option maxHeartbeats 1000000 in
theorem refm_new_arg (n : Int) (h : n < 4 ∨ 256 < n) (w : World) : Calls Try.prog 48 #[.int .i64 n] w fun e w' => e = .returned (.tuple #[.pointer none, .int .i64 1]) ∧ w = w' := by
  by_cases h4 : n < 4
  · clear h
    go_enter Try.func48, Try.ntmps48
    go_wp2_with fail
    go_ret2
    exact ⟨rfl, rfl⟩
  · have h256 : 256 < n := by omega
    have h4 : 4 ≤ n := by omega
    clear h
    go_enter Try.func48, Try.ntmps48
    go_wp2_with fail
    go_ret2
    exact ⟨rfl, rfl⟩
theorem refm_start (w : World) (n : Nat) : RefRam (w.alloc (.cells #[.int .i64 n, .slice none 0 0] 97)) w.heap.size w.heap.size n (.slice none 0 0) (fun _ => (0, 0)) 0 :=
  ⟨blk_alloc _ _, World.ownsRow_nil _ _ _ _, Nat.le_refl _, fun i h => absurd h (by omega), by omega⟩
set_option maxRecDepth 100000 in
set_option maxHeartbeats 2000000 in
theorem refm_in {w : World} {B wb n : Nat} {v : Value} {c : Nat → Int × Int} {m : Nat} (h : RefRam w B wb n v c m) (n4 : (4 : Int) ≤ n) (n256 : (n : Int) ≤ 256) (x : Int) (x0 : 0 ≤ x) (x1 : x < 18446744073709551616) (k : Int) (k0 : 0 ≤ k) (k1 : k < 9223372036854775808) :
    Calls Try.prog 79 #[.pointer (some ⟨wb, 0, none⟩), .int .u64 x, .int .i64 k] w fun e w' => e = .returned (.bool (ramAll n x k)) ∧ w = w' := by
  have c0 : w.cell? ⟨wb, 0, none⟩ = some (.int .i64 n) := blk_cell h.at_ 0
  clear h
  have HA := Lib.hid (show ramAll n x k = (decide (k = 0) || (decide (2147483648 ≤ x) && decide (x - 2147483648 < n * 4096) && decide (k ≤ n * 4096 - (x - 2147483648)))) from by
    unfold ramAll isRam
    rw [Bool.eq_iff_iff]
    simp only [Bool.or_eq_true, Bool.and_eq_true, decide_eq_true_eq]
    omega)
  have hw1 : IntKind.u64.wrap (n : Int) = n := by rw [IntKind.wrap_u64]; omega
  have hw2 : IntKind.u64.wrap k = k := by rw [IntKind.wrap_u64]; omega
  by_cases hk : k = 0
  · subst hk
    have HR := Lib.hid (show ramAll n x 0 = true from rfl)
    go_enter Try.func79, Try.ntmps79
    go_wp2_with fail
    go_ret
    exact ⟨ret_bool HR.out.symm, rfl⟩
  have hkb : (k == 0) = false := by simpa using hk
  by_cases h1 : 2147483648 ≤ x
  · by_cases h2 : x - 2147483648 < n * 4096
    · have hw3 : IntKind.u64.wrap ((n : Int) * 4096 - (x - 2147483648)) = n * 4096 - (x - 2147483648) := by rw [IntKind.wrap_u64]; omega
      by_cases h3 : k ≤ n * 4096 - (x - 2147483648)
      · have HR := Lib.hid (show ramAll n x k = true from by rw [HA.out, Bool.eq_iff_iff]; simp only [Bool.or_eq_true, Bool.and_eq_true, decide_eq_true_eq, Bool.false_eq_true, iff_true, iff_false]; omega)
        go_enter Try.func79, Try.ntmps79
        go_wp2_with fail
        go_ret
        exact ⟨ret_bool HR.out.symm, rfl⟩
      · have HR := Lib.hid (show ramAll n x k = false from by rw [HA.out, Bool.eq_iff_iff]; simp only [Bool.or_eq_true, Bool.and_eq_true, decide_eq_true_eq, Bool.false_eq_true, iff_true, iff_false]; omega)
        go_enter Try.func79, Try.ntmps79
        go_wp2_with fail
        go_ret
        exact ⟨ret_bool HR.out.symm, rfl⟩
    · have HR := Lib.hid (show ramAll n x k = false from by rw [HA.out, Bool.eq_iff_iff]; simp only [Bool.or_eq_true, Bool.and_eq_true, decide_eq_true_eq, Bool.false_eq_true, iff_true, iff_false]; omega)
      go_enter Try.func79, Try.ntmps79
      go_wp2_with fail
      go_ret
      exact ⟨ret_bool HR.out.symm, rfl⟩
  · have HR := Lib.hid (show ramAll n x k = false from by rw [HA.out, Bool.eq_iff_iff]; simp only [Bool.or_eq_true, Bool.and_eq_true, decide_eq_true_eq, Bool.false_eq_true, iff_true, iff_false]; omega)
    go_enter Try.func79, Try.ntmps79
    go_wp2_with fail
    go_ret
    exact ⟨ret_bool HR.out.symm, rfl⟩
set_option maxRecDepth 100000 in
set_option maxHeartbeats 2000000 in
theorem refm_at {w : World} {B wb n : Nat} {v : Value} {c : Nat → Int × Int} {m : Nat} (h : RefRam w B wb n v c m) (x : Int) :
    Calls Try.prog 83 #[.pointer (some ⟨wb, 0, none⟩), .int .u64 x] w fun e w' => e = .returned (.int .u8 (lkTo c x m)) ∧ w = w' := by
  obtain ⟨ad, cp, rfl⟩ : ∃ ad cp, v = .slice ad m cp := by
    rcases h.own.2 with ⟨h1, h2⟩ | ⟨g, cp, cur, h1, _⟩
    · exact ⟨none, 0, by rw [h1, h2]⟩
    · exact ⟨_, _, h1⟩
  have c1 : w.cell? ⟨wb, 1, none⟩ = some (.slice ad m cp) := blk_cell h.at_ 1
  have hmx := h.max
  have H := Lib.hid h
  have HS := Lib.hid (show ∀ j, lkTo c x (j + 1) = if (c j).1 = x then (c j).2 else lkTo c x j from fun _ => rfl)
  have H0 := Lib.hid (show lkTo c x 0 = 0 from rfl)
  clear h
  generalize lkTo c x = F at *
  go_enter Try.func83, Try.ntmps83
  go_wp2_with fail
  go_loop [5] (fun i => ∃ j : Nat, (j : Int) ≤ m ∧ i = .int .i64 ((j : Int) - 1) ∧ F m = F j) (fun i => (intOf i + 1).toNat)
  case atStart => exact ⟨m, by omega, rfl, rfl⟩
  case round =>
    obtain ⟨j, hj, rfl, hf⟩ := hrel
    have HF := Lib.hid hf
    clear hf
    rcases j with _ | j
    · have e0 : ((0 : Nat) : Int) - 1 = -1 := by omega
      rw [e0]
      go_wp2_with fail
      go_ret
      exact ⟨ret_int (by rw [HF.out, H0.out]), rfl⟩
    · have ej : ((j + 1 : Nat) : Int) - 1 = j := by omega
      rw [ej]
      have hj2 : (j : Int) < m := by omega
      obtain ⟨g, rfl⟩ : ∃ g, ad = some ⟨g, 0, none⟩ := by
        rcases H.out.own.2 with ⟨_, h2⟩ | ⟨g, cp', cur, h1, _⟩
        · omega
        · exact ⟨g, by injection h1⟩
      have d0 : w.cell? ⟨g, j * 2, none⟩ = some (.int .u64 (c j).1) := by rw [H.out.own.cellAt _ (by omega)]; exact (flat_get c m j (by omega)).1
      have d1 : w.cell? ⟨g, j * 2 + 1, none⟩ = some (.int .u8 (c j).2) := by rw [H.out.own.cellAt _ (by omega)]; exact (flat_get c m j (by omega)).2
      have HSJ := Lib.hid (HS.out j)
      generalize c j = cj at *
      clear hj
      by_cases hx : cj.1 = x
      · have hb : (cj.1 == x) = true := by simpa using hx
        have HX := Lib.hid hx
        clear hx
        go_wp2_with fail
        go_ret
        exact ⟨ret_int (by rw [HF.out, HSJ.out, if_pos HX.out]), rfl⟩
      · have hb : (cj.1 == x) = false := by simpa using hx
        have HX := Lib.hid hx
        clear hx
        go_wp2_with fail
        exact ⟨⟨j, by omega, rfl, by rw [HF.out, HSJ.out, if_neg HX.out]⟩, by simp [intOf]; try omega⟩
end Go.Proofs.Ytebdbbpefmgooaa
