/- RamPlays: the plain law that binds both memories: the same bytes are read as the same lists and words. No program. -/
import Derived.Test.YtebdbbpefmgooaaRamPlace
import Derived.Test.YtebdbbpefmgooaaRefPut
set_option linter.unusedVariables false
set_option linter.unusedSimpArgs false
namespace Go.Proofs.Ytebdbbpefmgooaa
open Go.RowKit
/-- the reference's bytes are the memory's -/
def SameB (n : Nat) (f : Int → Int) (ct : Nat → Nat) : Prop := ∀ i : Nat, i < n * 4096 → f (2147483648 + (i : Int)) = (ct i : Int)
theorem ramAll_in {n : Nat} {x k : Int} (h : ramAll n x k = true) (hn : (n : Int) ≤ 256) (k0 : 0 < k) : 2147483648 ≤ x ∧ x - 2147483648 + k ≤ n * 4096 := by
  simp only [ramAll, isRam, Bool.or_eq_true, Bool.and_eq_true, decide_eq_true_eq] at h
  omega
theorem SameB.at_ {n : Nat} {f : Int → Int} {ct : Nat → Nat} (h : SameB n f ct) {x : Int} {i : Nat} (hx : 2147483648 ≤ x) (hi : x - 2147483648 + (i : Int) < n * 4096) : f (x + (i : Int)) = (ct ((x - 2147483648).toNat + i) : Int) := by
  have := h ((x - 2147483648).toNat + i) (by omega)
  rw [← this]
  congr 1
  omega
theorem SameB.read {n : Nat} {f : Int → Int} {ct : Nat → Nat} (h : SameB n f ct) (hn : (n : Int) ≤ 256) (x : Int) (k : Nat) (ha : ramAll n x k = true) : readR f x k = bytesAt ct (x - 2147483648).toNat k := by
  unfold readR bytesAt
  refine List.map_congr_left fun i hi => ?_
  have hi := List.mem_range.1 hi
  have := ramAll_in ha hn (by omega)
  exact h.at_ this.1 (by omega)
theorem SameB.word {n : Nat} {f : Int → Int} {ct : Nat → Nat} (h : SameB n f ct) (hn : (n : Int) ≤ 256) (x : Int) (k : Nat) (ha : ramAll n x k = true) : wordR f x k = wordAt ct (x - 2147483648).toNat k := by
  unfold wordR wordAt
  refine wordN_congr k fun i hi => ?_
  have := ramAll_in ha hn (by omega)
  rw [h.at_ this.1 (by omega)]
  omega
theorem SameB.put {n : Nat} {f : Int → Int} {ct : Nat → Nat} (h : SameB n f ct) (x : Int) (hx : 2147483648 ≤ x) (l : Nat → Int) (l2 : Nat → Nat) (st : Nat → Bool) : ∀ k, (∀ i, i < k → l i = (l2 i : Int)) → SameB n (putR f x l st k) (putTo ct (x - 2147483648).toNat l2 st k)
  | 0, _ => h
  | k + 1, hl => by
    have ih := SameB.put h x hx l l2 st k (fun i hi => hl i (by omega))
    intro i hi
    have e := ih i hi
    unfold putR putTo
    show (if st k = true ∧ x + (k : Int) = 2147483648 + (i : Int) then l k else putR f x l st k (2147483648 + (i : Int))) = _
    by_cases hs : st k = true
    · by_cases hq : x + (k : Int) = 2147483648 + (i : Int)
      · have hq2 : i = (x - 2147483648).toNat + k := by omega
        rw [if_pos ⟨hs, hq⟩, hl k (by omega)]
        simp [hs, updB, hq2]
      · have hq2 : ¬ i = (x - 2147483648).toNat + k := by omega
        rw [if_neg (fun c => hq c.2), e]
        simp [hs, updB, hq2]
    · rw [if_neg (fun c => hs c.1), e]
      simp [hs]
end Go.Proofs.Ytebdbbpefmgooaa
