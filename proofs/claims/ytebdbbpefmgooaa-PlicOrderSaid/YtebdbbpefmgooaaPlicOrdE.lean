/- PlicOrder: the PLIC behind the levels; the plain law of one claim. No condition. -/
import Derived.Test.YtebdbbpefmgooaaPlicOrdD
namespace Go.Proofs.Ytebdbbpefmgooaa
open Go.RowKit
/-- the PLIC with priorities P, enable E of context 0, pending p, claimed q -/
def ordT (P : Nat → Nat) (E p q : Nat) : Dev := { dev0 with pr := P, en := upd (fun _ => 0) 0 E, pend := p, cla := q }
theorem ordD_last (P : Nat → Nat) (P8 : ∀ j, ¬ j < 8 → P j = 0) : ordD P 8 = ({ dev0 with pr := P } : Dev) := by
  have : (fun j => if j < 8 then P j else 0) = P := by
    funext j
    by_cases h : j < 8
    · rw [if_pos h]
    · rw [if_neg h, P8 j h]
  unfold ordD
  rw [this]
theorem ordE_write (P : Nat → Nat) (P8 : ∀ j, ¬ j < 8 → P j = 0) (en : Nat) : (ordD P 8).write 8192 4 en = (0, ordT P (and254 (lo32 en)) 0 0) := by
  rw [ordD_last P P8]
  rfl
theorem ordE_tick (P : Nat → Nat) (E lv : Nat) : (ordT P E 0 0).tick lv = ordT P E (0 ||| andNot32 (lv &&& 254) 0) 0 := rfl
theorem ordE_best (P : Nat → Nat) (E p q : Nat) : (ordT P E p q).best 0 = bestTo (p &&& E) P 7 := rfl
theorem ordE_read0 (P : Nat → Nat) (E p q : Nat) (h : bestTo (p &&& E) P 7 = 0) : (ordT P E p q).read 2097156 4 = (0, 0, ordT P E p q) := by
  show ((ordT P E p q).best 0, (0 : Int), if (ordT P E p q).best 0 = 0 then ordT P E p q else (ordT P E p q).claim ((ordT P E p q).best 0)) = _
  rw [ordE_best, h, if_pos rfl]
theorem ordE_read (P : Nat → Nat) (E p q b : Nat) (h : bestTo (p &&& E) P 7 = b) (hb : b ≠ 0) : (ordT P E p q).read 2097156 4 = (b, 0, ordT P E (andNot32 p (pow2 b)) (q ||| pow2 b)) := by
  show ((ordT P E p q).best 0, (0 : Int), if (ordT P E p q).best 0 = 0 then ordT P E p q else (ordT P E p q).claim ((ordT P E p q).best 0)) = _
  rw [ordE_best, h, if_neg hb]; rfl
theorem bit254 : ∀ s : Nat, s ≤ 7 → Nat.testBit 254 s = decide (1 ≤ s) := by decide
theorem bits0 (en lv s : Nat) (h1 : 1 ≤ s) (h7 : s ≤ 7) : ((0 ||| andNot32 (lv &&& 254) 0) &&& and254 (lo32 en)).testBit s = (en.testBit s && lv.testBit s) := by
  rw [Nat.zero_or, Nat.testBit_and, andNot32_bit _ _ _ (by omega) (by omega), Nat.testBit_and, bit254 s h7]
  unfold and254 lo32
  rw [Nat.testBit_and, Nat.testBit_and, bit254 s h7, show (4294967295 : Nat) = 2 ^ 32 - 1 from rfl, Nat.testBit_two_pow_sub_one]
  simp [h1, show s < 32 by omega, Bool.and_comm]
/-- what holds between two claims: the set x = p and E of those left, n claimed -/
structure Left (P : Nat → Nat) (E en lv W p : Nat) (last lastS n : Nat) : Prop where
  p32 : p < 2 ^ 32
  behind : Behind (p &&& E) P last lastS
  sum : n + cnt (p &&& E) P 7 = W
  bits : ∀ s, 1 ≤ s → s ≤ 7 → (p &&& E).testBit s = true → en.testBit s = true ∧ lv.testBit s = true
theorem left_next {P : Nat → Nat} {E en lv W p last lastS n b : Nat} (P0 : P 0 = 0) (hW : W ≤ 7) (h : Left P E en lv W p last lastS n) (hb : bestTo (p &&& E) P 7 = b) (hb0 : b ≠ 0) :
    b ≤ 7 ∧ 1 ≤ b ∧ 0 < P b ∧ P b ≤ last ∧ (P b = last → lastS ≤ b) ∧ en.testBit b = true ∧ lv.testBit b = true ∧ n < 7 ∧ Left P E en lv W (andNot32 p (pow2 b)) (P b) b (n + 1) := by
  have h7 : b ≤ 7 := hb ▸ bestTo_le _ _ _
  obtain ⟨i1, i2, i3⟩ := bestTo_spec (p &&& E) P P0 7
  rw [hb] at i1 i2 i3
  obtain ⟨h1, hx, hp⟩ := i1.resolve_left hb0
  obtain ⟨c1, c2⟩ := claim_bits p E b h.p32 h7
  have hc := cnt_drop (p &&& E) (andNot32 p (pow2 b) &&& E) P b h1 hx hp c1 c2 7 h7
  have hs := h.sum
  obtain ⟨g1, g2⟩ := h.behind b h1 h7 hx hp
  refine ⟨h7, h1, hp, g1, g2, (h.bits b h1 h7 hx).1, (h.bits b h1 h7 hx).2, by omega, andNot32_lt _ h.p32, behind_next _ _ P P0 b hb c1 c2, by omega, ?_⟩
  intro s s1 s7 sx
  have hsb : s ≠ b := by intro e; rw [e, c1] at sx; cases sx
  rw [c2 s hsb] at sx
  exact h.bits s s1 s7 sx
theorem left_first (P : Nat → Nat) (en lv : Nat) (PL : ∀ s, P s < 8) (hlv : lv < 2 ^ 32) : Left P (and254 (lo32 en)) en lv (cnt ((0 ||| andNot32 (lv &&& 254) 0) &&& and254 (lo32 en)) P 7) (0 ||| andNot32 (lv &&& 254) 0) 8 0 0 :=
  ⟨by rw [Nat.zero_or]; exact andNot32_lt _ (and_lt32 _ hlv), fun s _ _ _ _ => ⟨by have := PL s; omega, fun _ => Nat.zero_le _⟩, by omega, fun s h1 h7 h => by rw [bits0 en lv s h1 h7, Bool.and_eq_true] at h; exact h⟩
theorem left_done {P : Nat → Nat} {E en lv W p last lastS n : Nat} (P0 : P 0 = 0) (h : Left P E en lv W p last lastS n) (hb : bestTo (p &&& E) P 7 = 0) : n = W := by
  have := h.sum
  rw [cnt_zero _ P P0 7 hb] at this
  exact this
theorem cnt_step (x : Nat) (P : Nat → Nat) (k : Nat) : cnt x P (k + 1) = cnt x P k + if x.testBit (k + 1) ∧ 0 < P (k + 1) then 1 else 0 := rfl
end Go.Proofs.Ytebdbbpefmgooaa
