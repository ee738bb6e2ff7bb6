/- The order in which sources are claimed (plain Lean). No condition. -/
import Derived.Test.YtebdbbpefmgooaaPlicF
set_option linter.unusedVariables false
set_option linter.unusedSimpArgs false
namespace Go.Proofs.Ytebdbbpefmgooaa
open Go.RowKit
/-- what bestTo finds -/
theorem bestTo_spec (x : Nat) (pr : Nat → Nat) (h0 : pr 0 = 0) : ∀ n, (bestTo x pr n = 0 ∨ (1 ≤ bestTo x pr n ∧ x.testBit (bestTo x pr n) = true ∧ 0 < pr (bestTo x pr n))) ∧
    (∀ s, 1 ≤ s → s ≤ n → x.testBit s = true → pr s ≤ pr (bestTo x pr n)) ∧ (∀ s, 1 ≤ s → s < bestTo x pr n → x.testBit s = true → pr s < pr (bestTo x pr n))
  | 0 => ⟨.inl rfl, by intro s h1 h2; omega, by intro s h1 h2; simp [bestTo] at h2⟩
  | n + 1 => by
    obtain ⟨i1, i2, i3⟩ := bestTo_spec x pr h0 n
    have hle := bestTo_le x pr n
    unfold bestTo
    split
    · rename_i hc
      refine ⟨.inr ⟨by omega, hc.1, by omega⟩, ?_, ?_⟩
      · intro s h1 h2 hs
        by_cases e : s = n + 1
        · rw [e]; exact Nat.le_refl _
        · exact Nat.le_of_lt (Nat.lt_of_le_of_lt (i2 s h1 (by omega) hs) hc.2)
      · intro s h1 h2 hs
        exact Nat.lt_of_le_of_lt (i2 s h1 (by omega) hs) hc.2
    · rename_i hc
      refine ⟨i1, ?_, i3⟩
      intro s h1 h2 hs
      by_cases e : s = n + 1
      · subst e
        apply Nat.le_of_not_lt
        intro hlt
        exact hc ⟨hs, hlt⟩
      · exact i2 s h1 (by omega) hs
/-- how many sources 1 .. n are in x with a priority -/
def cnt (x : Nat) (pr : Nat → Nat) : Nat → Nat
  | 0 => 0
  | n + 1 => cnt x pr n + if x.testBit (n + 1) ∧ 0 < pr (n + 1) then 1 else 0
theorem cnt_le (x : Nat) (pr : Nat → Nat) : ∀ n, cnt x pr n ≤ n
  | 0 => Nat.le_refl _
  | n + 1 => by unfold cnt; have := cnt_le x pr n; split <;> omega
theorem cnt_congr (x y : Nat) (pr : Nat → Nat) : ∀ n, (∀ s, 1 ≤ s → s ≤ n → x.testBit s = y.testBit s) → cnt x pr n = cnt y pr n
  | 0, _ => rfl
  | n + 1, h => by
    unfold cnt
    rw [cnt_congr x y pr n (fun s h1 h2 => h s h1 (by omega)), h (n + 1) (by omega) (by omega)]
/-- one less, where a source goes -/
theorem cnt_drop (x y : Nat) (pr : Nat → Nat) (b : Nat) (hb1 : 1 ≤ b) (hx : x.testBit b = true) (hp : 0 < pr b) (hy : y.testBit b = false) (ho : ∀ s, s ≠ b → y.testBit s = x.testBit s) :
    ∀ n, b ≤ n → cnt y pr n + 1 = cnt x pr n
  | 0, h => by omega
  | n + 1, h => by
    unfold cnt
    by_cases e : b = n + 1
    · subst e
      rw [cnt_congr y x pr n (fun s h1 h2 => ho s (by omega)), hy, hx]
      simp [hp]
    · have := cnt_drop x y pr b hb1 hx hp hy ho n (by omega)
      rw [ho (n + 1) (by omega)]
      omega
theorem cnt_zero (x : Nat) (pr : Nat → Nat) (h0 : pr 0 = 0) (n : Nat) (h : bestTo x pr n = 0) : cnt x pr n = 0 := by
  obtain ⟨_, h2, _⟩ := bestTo_spec x pr h0 n
  rw [h, h0] at h2
  have : ∀ m, m ≤ n → cnt x pr m = 0 := by
    intro m
    induction m with
    | zero => intro _; rfl
    | succ m ih =>
      intro hm
      unfold cnt
      rw [ih (by omega)]
      by_cases hb : x.testBit (m + 1) = true
      · have := h2 (m + 1) (by omega) hm hb
        simp [hb]; omega
      · simp [hb]
  exact this n (Nat.le_refl _)
/-- the sources that are left, against the one that was claimed last: none comes ahead of it -/
def Behind (x : Nat) (pr : Nat → Nat) (last lastS : Nat) : Prop := ∀ s, 1 ≤ s → s ≤ 7 → x.testBit s = true → 0 < pr s → pr s ≤ last ∧ (pr s = last → lastS ≤ s)
theorem behind_next (x y : Nat) (pr : Nat → Nat) (h0 : pr 0 = 0) (b : Nat) (hb : bestTo x pr 7 = b) (hy : y.testBit b = false) (ho : ∀ s, s ≠ b → y.testBit s = x.testBit s) : Behind y pr (pr b) b := by
  intro s h1 h2 hs hp
  obtain ⟨_, i2, i3⟩ := bestTo_spec x pr h0 7
  rw [hb] at i2 i3
  have hsb : s ≠ b := by intro e; rw [e, hy] at hs; cases hs
  rw [ho s hsb] at hs
  refine ⟨i2 s h1 h2 hs, fun e => ?_⟩
  apply Nat.le_of_not_lt
  intro hlt
  have := i3 s h1 hlt hs
  omega
/-- the bits of what is pending and enabled, when a source has been claimed -/
theorem claim_bits (p e b : Nat) (hp : p < 2 ^ 32) (hb : b ≤ 7) : (andNot32 p (pow2 b) &&& e).testBit b = false ∧ ∀ s, s ≠ b → (andNot32 p (pow2 b) &&& e).testBit s = (p &&& e).testBit s := by
  have h2 := pow2_lt hb
  constructor
  · rw [Nat.testBit_and, andNot32_bit _ _ _ h2 (by omega)]
    have : (pow2 b).testBit b = true := by simp [pow2]
    simp [this]
  · intro s hs
    rw [Nat.testBit_and, Nat.testBit_and]
    by_cases h : s < 32
    · rw [andNot32_bit _ _ _ h2 h]
      have : (pow2 b).testBit s = false := by unfold pow2; rw [Nat.testBit_two_pow]; simp; omega
      simp [this]
    · have big : ∀ z, z < 2 ^ 32 → z.testBit s = false := fun z hz => Nat.testBit_lt_two_pow (Nat.lt_of_lt_of_le hz (Nat.pow_le_pow_right (by omega) (by omega)))
      rw [big _ (andNot32_lt _ hp), big _ hp]
end Go.Proofs.Ytebdbbpefmgooaa
