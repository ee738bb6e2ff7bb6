/- Words and their bytes (plain). No condition. -/
import Derived.Test.YtebdbbpefmgooaaRam6
set_option linter.unusedVariables false
set_option linter.unusedSimpArgs false
namespace Go.Proofs.Ytebdbbpefmgooaa
open Go.RowKit
theorem wordN_bytes (v : Nat) : ∀ k, wordN (fun i => v / 2 ^ (8 * i) % 256) k = v % 2 ^ (8 * k)
  | 0 => by simp [wordN, Nat.mod_one]
  | k + 1 => by
    unfold wordN
    rw [wordN_bytes v k, show 8 * (k + 1) = 8 * k + 8 by omega, Nat.pow_add, Nat.mod_mul, show (2 : Nat) ^ 8 = 256 from rfl, Nat.mul_comm (v / 2 ^ (8 * k) % 256)]
theorem wordN_compl (f : Nat → Nat) (h : ∀ i, f i < 256) : ∀ k, wordN f k + wordN (fun i => 255 - f i) k = 2 ^ (8 * k) - 1
  | 0 => by simp [wordN]
  | k + 1 => by
    have ih := wordN_compl f h k
    have hp : 0 < 2 ^ (8 * k) := Nat.pow_pos (by omega)
    have e : 2 ^ (8 * (k + 1)) = 256 * 2 ^ (8 * k) := by rw [show 8 * (k + 1) = 8 * k + 8 by omega, Nat.pow_add]; omega
    unfold wordN
    rw [e]
    have h1 := h k
    have e2 : f k * 2 ^ (8 * k) + (255 - f k) * 2 ^ (8 * k) = 255 * 2 ^ (8 * k) := by rw [← Nat.add_mul]; congr 1; omega
    omega
theorem word_putWord (ct : Nat → Nat) (off k v : Nat) : wordAt (putWord ct off k v) off k = v % 2 ^ (8 * k) := by
  rw [← wordN_bytes]
  exact wordN_congr k fun i hi => by
    unfold putWord
    rw [if_pos ⟨by omega, by omega⟩, Nat.add_sub_cancel_left]
theorem word_putWord_in (ct : Nat → Nat) (off k v d j : Nat) (h : d + j ≤ k) : wordAt (putWord ct off k v) (off + d) j = v / 2 ^ (8 * d) % 2 ^ (8 * j) := by
  rw [← wordN_bytes]
  exact wordN_congr j fun i hi => by
    unfold putWord
    rw [if_pos ⟨by omega, by omega⟩, show off + d + i - off = d + i by omega, Nat.div_div_eq_div_mul, ← Nat.pow_add, Nat.mul_add]
/-- of the eight bytes of v the first k turned -/
def turnedTo (ct : Nat → Nat) (off v k : Nat) : Nat → Nat := fun i => if off ≤ i ∧ i < off + k then 255 - v / 2 ^ (8 * (i - off)) % 256 else putWord ct off 8 v i
theorem turnedTo_0 (ct : Nat → Nat) (off v : Nat) : turnedTo ct off v 0 = putWord ct off 8 v := by
  funext i
  unfold turnedTo
  rw [if_neg (by omega)]
theorem turnedTo_byte (ct : Nat → Nat) (off v k : Nat) (hk : k < 8) : wordAt (turnedTo ct off v k) (off + k) 1 = v / 2 ^ (8 * k) % 256 := by
  show wordN _ 0 + _ * 2 ^ (8 * 0) = _
  unfold turnedTo putWord
  simp only [wordN, Nat.mul_zero, Nat.pow_zero, Nat.mul_one, Nat.zero_add, Nat.add_zero]
  rw [if_neg (by omega), if_pos ⟨by omega, by omega⟩, Nat.add_sub_cancel_left]
theorem turnedTo_step (ct : Nat → Nat) (off v k : Nat) (hk : k < 8) : putWord (turnedTo ct off v k) (off + k) 1 (255 - v / 2 ^ (8 * k) % 256) = turnedTo ct off v (k + 1) := by
  funext i
  unfold putWord turnedTo
  by_cases hi : i = off + k
  · subst hi
    rw [if_pos ⟨by omega, by omega⟩, if_pos ⟨by omega, by omega⟩, Nat.sub_self, Nat.add_sub_cancel_left]
    simp
    omega
  · rw [if_neg (by omega)]
    by_cases h2 : off ≤ i ∧ i < off + k
    · rw [if_pos h2, if_pos ⟨h2.1, by omega⟩]
    · rw [if_neg h2, if_neg (by omega)]
theorem turnedTo_8 (ct : Nat → Nat) (off v : Nat) (hv : v < 2 ^ 64) : wordAt (turnedTo ct off v 8) off 8 = 2 ^ 64 - 1 - v := by
  have h1 := wordN_bytes v 8
  have h2 := wordN_compl (fun i => v / 2 ^ (8 * i) % 256) (fun i => by omega) 8
  have h3 : wordAt (turnedTo ct off v 8) off 8 = wordN (fun i => 255 - v / 2 ^ (8 * i) % 256) 8 := wordN_congr 8 fun i hi => by
    unfold turnedTo
    rw [if_pos ⟨by omega, by omega⟩, Nat.add_sub_cancel_left]
  rw [h3]
  rw [h1, Nat.mod_eq_of_lt (by omega)] at h2
  omega
/-- two halves side by side -/
theorem halves_or (v : Nat) (hv : v < 2 ^ 64) : bits .or .u64 ((v % 2 ^ (8 * 4) : Nat) : Int) (((v / 2 ^ (8 * 4) % 2 ^ (8 * 4)) * 2 ^ 32 : Nat) : Int) = (v : Int) := by
  have h1 : v % 2 ^ (8 * 4) < 2 ^ 32 := Nat.mod_lt _ (by omega)
  have h2 : v / 2 ^ (8 * 4) % 2 ^ (8 * 4) = v / 2 ^ 32 := Nat.mod_eq_of_lt (by omega)
  rw [h2, u64_or_nat _ _ (by omega) (by omega), Nat.or_comm, Nat.mul_comm, ← Nat.two_pow_add_eq_or_of_lt h1]
  congr 1
  omega
theorem xor255 (x : Nat) (h : x < 256) : bits .xor .u64 (x : Int) 255 = ((255 - x : Nat) : Int) := by
  have : ∀ y : Fin 256, bits .xor .u64 (y.val : Int) 255 = ((255 - y.val : Nat) : Int) := by decide +kernel
  exact this ⟨x, h⟩
theorem and255 (x : Nat) (h : x < 2 ^ 64) : bits .and .u64 (x : Int) 255 = ((x % 256 : Nat) : Int) := by
  have := u64_and_nat x 255 (by omega) (by omega)
  rw [show ((255 : Nat) : Int) = 255 from rfl] at this
  rw [this, show (255 : Nat) = 2 ^ 8 - 1 from rfl, Nat.and_two_pow_sub_one_eq_mod]
end Go.Proofs.Ytebdbbpefmgooaa
