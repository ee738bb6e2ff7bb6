/- One call of the memory's script, Read: both answer alike. -/
import Derived.Test.YtebdbbpefmgooaaRamLink
import Derived.StillTailTactics
import Derived.BigRegion
import Derived.Deep.RegionWith
import Derived.Deep.RegionHeld3
import Derived.Deep.QuietTactic
import Derived.BigQuiet
import Derived.Deep.DeepFit
import Derived.Deep.DeepMust
import Derived.Handy
set_option linter.unusedVariables false
set_option linter.unusedSimpArgs false
namespace Go.Proofs.Ytebdbbpefmgooaa
open Go.RowKit
set_option maxRecDepth 100000
/-- what Read answers, of both memories -/
def readE (n : Nat) (x k : Int) : Int := if k < 0 then 1 else if ramAll n x k then 0 else 6
def readL (n : Nat) (ct : Nat → Nat) (x k : Int) : List Int := if readE n x k = 0 then bytesAt ct (x - 2147483648).toNat k.toNat else []
/-- those bytes, and an error's number -/
def ReadA (w : World) (er : Int) (l : List Int) (e : Ending) (w' : World) : Prop := ∃ v, e = .returned (.tuple #[v, .int .i64 er]) ∧ w'.ownsRow w.heap.size 5 1 v l.length (l.map (Value.int .u8)) ∧ Below w.heap.size w w'
theorem ReadA.no {w w' : World} {er : Int} {e : Ending} (h : NoBytes w er e w') : ReadA w er [] e w' := ⟨_, h.1, ⟨rfl, .inl ⟨rfl, rfl⟩⟩, h.2⟩
theorem ReadA.own {w w' : World} {k : Nat} {l : List Int} {e : Ending} (hl : l.length = k) (h : OwnBytes w k l e w') : ReadA w 0 l e w' := by
  subst hl; exact h
theorem readL_bd {n : Nat} {ct : Nat → Nat} (h : ∀ i, ct i < 256) (x k : Int) : ∀ y ∈ readL n ct x k, 0 ≤ y ∧ y ≤ 255 := by
  unfold readL
  split
  · exact bytesAt_bd h _ _
  · intro y hy; cases hy
theorem ram_read_any {w : World} {b n : Nat} {ct : Nat → Nat} {S : Nat → Prop} (h : RamAt w b n ct S) (x : Int) (x0 : 0 ≤ x) (x1 : x < 18446744073709551616) (k : Int) (k1 : k ≤ 200) :
    Calls Try.prog 39 #[.pointer (some ⟨b, 0, none⟩), .int .u64 x, .int .i64 k] w (ReadA w (readE n x k) (readL n ct x k)) := by
  unfold readL readE
  by_cases hk : k < 0
  · rw [if_pos hk, if_neg (by omega)]
    exact (ram_read_neg b x k hk w).mono fun _ _ h => ReadA.no h
  · obtain ⟨q, rfl⟩ := Int.eq_ofNat_of_zero_le (show 0 ≤ k by omega)
    rw [if_neg hk]
    cases ha : ramAll n x q with
    | true => simp only [if_true]; exact (ram_read_ok h x x0 x1 q ha).mono fun _ _ h => ReadA.own (bytesAt_len _ _ _) h
    | false => simp only [Bool.false_eq_true, if_false]; rw [if_neg (by omega)]; exact (ram_read_bus h x x0 x1 q (by omega) (by omega) ha).mono fun _ _ h => ReadA.no h
theorem ref_read_any {w : World} {B wb n : Nat} {v : Value} {c : Nat → Int × Int} {m : Nat} (h : RefRam w B wb n v c m) (n4 : (4 : Int) ≤ n) (n256 : (n : Int) ≤ 256) {ct : Nat → Nat} (hs : SameB n (fun y => lkTo c y m) ct) (x : Int) (x0 : 0 ≤ x) (x1 : x < 18446744073709551616) (k : Int) (k1 : k ≤ 200) :
    Calls Try.prog 71 #[.pointer (some ⟨wb, 0, none⟩), .int .u64 x, .int .i64 k] w (ReadA w (readE n x k) (readL n ct x k)) := by
  unfold readL readE
  by_cases hk : k < 0
  · rw [if_pos hk, if_neg (by omega)]
    exact (refm_read_neg wb x k hk w).mono fun _ _ h => ReadA.no h
  · obtain ⟨q, rfl⟩ := Int.eq_ofNat_of_zero_le (show 0 ≤ k by omega)
    rw [if_neg hk]
    cases ha : ramAll n x q with
    | true =>
      have e := hs.read n256 x q ha
      simp only [if_true]
      rw [show ((q : Int).toNat) = q from rfl, ← e]
      exact (refm_read_ok h n4 n256 x x0 x1 q (by omega) ha).mono fun _ _ h => ReadA.own (by simp [readR]) h
    | false => simp only [Bool.false_eq_true, if_false]; rw [if_neg (by omega)]; exact (refm_read_bus h n4 n256 x x0 x1 q (by omega) (by omega) ha).mono fun _ _ h => ReadA.no h
end Go.Proofs.Ytebdbbpefmgooaa
