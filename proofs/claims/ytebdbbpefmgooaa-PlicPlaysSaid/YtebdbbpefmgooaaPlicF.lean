/- The PLIC's tick, bit by bit and at once (plain Lean). No condition. -/
import Derived.Test.YtebdbbpefmgooaaPlicE
set_option linter.unusedVariables false
set_option linter.unusedSimpArgs false
namespace Go.Proofs.Ytebdbbpefmgooaa
open Go.RowKit
/-- sources 1 .. n of the levels l, but those of c, join p -/
def tickTo (p l c : Nat) : Nat → Nat
  | 0 => p
  | n + 1 => if l.testBit (n + 1) && !c.testBit (n + 1) then tickTo p l c n ||| pow2 (n + 1) else tickTo p l c n
theorem tickTo_lt (p l c : Nat) (hp : p < 2 ^ 32) : ∀ n, n ≤ 7 → tickTo p l c n < 2 ^ 32
  | 0, _ => hp
  | n + 1, h => by
    unfold tickTo
    split
    · exact Nat.or_lt_two_pow (tickTo_lt p l c hp n (by omega)) (pow2_lt h)
    · exact tickTo_lt p l c hp n (by omega)
theorem andNot32_bit (a b i : Nat) (hb : b < 2 ^ 32) (hi : i < 32) : (andNot32 a b).testBit i = (a.testBit i && !b.testBit i) := by
  unfold andNot32
  rw [Nat.testBit_and, show 4294967295 - b = 2 ^ 32 - (b + 1) by omega, Nat.testBit_two_pow_sub_succ hb]
  simp [hi]
theorem tickTo_bit (p l c : Nat) (i : Nat) : ∀ n, (tickTo p l c n).testBit i = (p.testBit i || (decide (1 ≤ i ∧ i ≤ n) && (l.testBit i && !c.testBit i)))
  | 0 => by
    have : ¬ (1 ≤ i ∧ i ≤ 0) := by omega
    rw [decide_eq_false this]; simp [tickTo]
  | n + 1 => by
    unfold tickTo
    have ih := tickTo_bit p l c i n
    by_cases hi : i = n + 1
    · subst hi
      have h1 : ¬ (1 ≤ n + 1 ∧ n + 1 ≤ n) := by omega
      have h2 : (1 ≤ n + 1 ∧ n + 1 ≤ n + 1) := by omega
      rw [decide_eq_false h1] at ih
      rw [decide_eq_true h2]
      split
      · rename_i h
        rw [Nat.testBit_or, ih]
        simp [pow2, h]
      · rename_i h
        rw [ih]
        simp only [Bool.not_eq_true] at h
        rw [h]
        rfl
    · have e : decide (1 ≤ i ∧ i ≤ n + 1) = decide (1 ≤ i ∧ i ≤ n) := by
        by_cases h : 1 ≤ i ∧ i ≤ n
        · rw [decide_eq_true h, decide_eq_true (by omega)]
        · rw [decide_eq_false h, decide_eq_false (by omega)]
      rw [e]
      split
      · rw [Nat.testBit_or, ih]
        have : (pow2 (n + 1)).testBit i = false := by unfold pow2; rw [Nat.testBit_two_pow]; simp; omega
        simp [this]
      · exact ih
theorem m254_bit (i : Nat) : (254 : Nat).testBit i = decide (1 ≤ i ∧ i ≤ 7) := by
  by_cases h : i < 8
  · have : i = 0 ∨ i = 1 ∨ i = 2 ∨ i = 3 ∨ i = 4 ∨ i = 5 ∨ i = 6 ∨ i = 7 := by omega
    rcases this with rfl | rfl | rfl | rfl | rfl | rfl | rfl | rfl <;> decide
  · rw [decide_eq_false (by omega)]
    exact Nat.testBit_lt_two_pow (Nat.lt_of_lt_of_le (by omega) (Nat.pow_le_pow_right (by omega) (show 8 ≤ i by omega)))
theorem tick_all (d : Dev) (hd : d.Ok) (l : Nat) (hl : l < 2 ^ 32) : tickTo d.pend l d.cla 7 = (d.tick l).pend := by
  unfold Dev.tick
  apply Nat.eq_of_testBit_eq
  intro i
  rw [tickTo_bit]
  simp only [Nat.testBit_or]
  by_cases hi : i < 32
  · rw [andNot32_bit _ _ _ hd.cla hi, Nat.testBit_and, m254_bit]
    cases d.pend.testBit i <;> cases l.testBit i <;> cases d.cla.testBit i <;> cases (decide (1 ≤ i ∧ i ≤ 7)) <;> rfl
  · have h1 : (andNot32 (l &&& 254) d.cla).testBit i = false := Nat.testBit_lt_two_pow (Nat.lt_of_lt_of_le (andNot32_lt _ (and_lt32 _ hl)) (Nat.pow_le_pow_right (by omega) (by omega)))
    rw [h1, decide_eq_false (by omega)]
    rfl
/-- a source that is completed: looked at first, or not -/
theorem complete_eq (d : Dev) (hd : d.Ok) (k s : Nat) (hk : k < 2) (hs : s ≤ 7) : andNot32 d.cla (d.en k &&& pow2 s) = if (d.cla &&& d.en k).testBit s then andNot32 d.cla (pow2 s) else d.cla := by
  have hp := pow2_lt hs
  apply Nat.eq_of_testBit_eq
  intro i
  by_cases hi : i < 32
  · rw [andNot32_bit _ _ _ (and_lt32 _ (hd.en k hk)) hi, Nat.testBit_and]
    by_cases his : i = s
    · subst his
      have hps : (pow2 i).testBit i = true := by simp [pow2]
      split
      · rename_i h
        rw [Nat.testBit_and] at h
        rw [andNot32_bit _ _ _ hp hi, hps]
        cases h1 : d.cla.testBit i <;> cases h2 : (d.en k).testBit i <;> simp_all
      · rename_i h
        rw [Nat.testBit_and] at h
        rw [hps]
        cases h1 : d.cla.testBit i <;> cases h2 : (d.en k).testBit i <;> simp_all
    · have hps : (pow2 s).testBit i = false := by unfold pow2; rw [Nat.testBit_two_pow]; simp; omega
      rw [hps]
      split
      · rw [andNot32_bit _ _ _ hp hi, hps]; simp
      · simp
  · have big : ∀ x, x < 2 ^ 32 → x.testBit i = false := fun x hx => Nat.testBit_lt_two_pow (Nat.lt_of_lt_of_le hx (Nat.pow_le_pow_right (by omega) (by omega)))
    rw [big _ (andNot32_lt _ hd.cla)]
    split
    · rw [big _ (andNot32_lt _ hd.cla)]
    · rw [big _ hd.cla]
end Go.Proofs.Ytebdbbpefmgooaa
