/- Contracts of ram.New, Some, Write. No condition. -/
import Derived.Test.YtebdbbpefmgooaaBits
import Derived.Test.YtebdbbpefmgooaaArgs
import Derived.Deep.OwnRows
import Derived.StillTailTactics
import Derived.BigRegion
import Derived.Deep.RegionWith
import Derived.Deep.RegionHeld3
import Derived.Deep.QuietTactic
import Derived.BigQuiet
import Derived.Deep.LoopGhost
import Derived.Deep.DeepCutAuto
import Derived.Deep.DeepFit
import Derived.Deep.DeepMust
import Derived.Handy
set_option linter.unusedVariables false
set_option linter.unusedSimpArgs false
namespace Go.Proofs.Ytebdbbpefmgooaa
open Go.RowKit
theorem RamAt.to {w : World} {b n : Nat} {ct : Nat → Nat} {S : Nat → Prop} (h : RamAt w b n ct S) : RamTo w w b n ct S := ⟨S, h, Turned.refl _ _, fun _ => .inl⟩
/-- from one to the next: the first has turned to wr, owning what it owned and new blocks -/
theorem RamTo.step {w wr : World} {b n : Nat} {ct : Nat → Nat} {S : Nat → Prop} (h : RamTo w wr b n ct S) : ∃ S', RamAt wr b n ct S' ∧ Turned S w wr ∧ (∀ g, S' g → S g ∨ w.heap.size ≤ g) ∧ (∀ w' ct', RamTo wr w' b n ct' S' → RamTo w w' b n ct' S) := by
  obtain ⟨S', h1, h2, h3⟩ := h
  refine ⟨S', h1, h2, h3, ?_⟩
  rintro w' ct' ⟨S'', k1, k2, k3⟩
  refine ⟨S'', k1, h2.trans k2 h3, fun g hg => ?_⟩
  rcases k3 g hg with h | h
  · exact h3 g h
  · have := h2.size; right; omega
theorem RamTo.below {w w1 w2 : World} {b n : Nat} {ct : Nat → Nat} {S : Nat → Prop} (h : RamTo w w1 b n ct S) (hb : Below w1.heap.size w1 w2) : RamTo w w2 b n ct S := by
  obtain ⟨S', h1, h2, h3, h4⟩ := h.step
  exact h4 w2 ct ⟨S', h1.below hb, Turned.of_below hb _, fun _ => .inl⟩
theorem RamTo.from_below {w w1 w2 : World} {b n : Nat} {ct : Nat → Nat} {S : Nat → Prop} (hb : Below w.heap.size w w1) (h : RamTo w1 w2 b n ct S) : RamTo w w2 b n ct S := by
  obtain ⟨S', h1, h2, h3⟩ := h
  refine ⟨S', h1, (Turned.of_below hb (fun _ => False)).mono (fun _ e => e.elim) |>.trans h2 (fun _ => .inl), fun g hg => ?_⟩
  rcases h3 g hg with h | h
  · exact .inl h
  · have := hb.size; right; omega
/-- a slice's cells lie in none of these blocks -/
def Apart (S : Nat → Prop) (a : Option Addr) : Prop := ∀ b o s, a = some ⟨b, o, s⟩ → ¬ S b
theorem isB_turned {w w' : World} {S : Nat → Prop} {a : Option Addr} {n : Nat} {l : List Int} (h : IsB w a n l) (ht : Turned S w w') (ha : Apart S a) : IsB w' a n l := by
  obtain ⟨h1, h2, h3⟩ := h
  refine ⟨h1, h2, h3.imp id ?_⟩
  rintro ⟨b, o, rfl, hc⟩
  refine ⟨b, o, rfl, fun i hi => ?_⟩
  have hlt : b < w.heap.size := World.block_lt_of_cell? w _ (hc i hi)
  rw [← hc i hi]
  unfold World.cell?
  simp only [ht.block b hlt (ha b o none rfl)]
theorem isRow_turned {w w' : World} {S : Nat → Prop} {a : Option Addr} {n : Nat} {V : Nat → Value} (h : IsRow w a n V) (ht : Turned S w w') (ha : Apart S a) : IsRow w' a n V := by
  intro hn
  obtain ⟨b, o, rfl, hlt, hc⟩ := h hn
  refine ⟨b, o, rfl, Nat.lt_of_lt_of_le hlt ht.size, fun i hi => ?_⟩
  rw [← hc i hi]
  unfold World.cell?
  simp only [ht.block b hlt (ha b o none rfl)]
/-- of the bytes l from off on the first k put in, where st says so -/
def putTo (ct : Nat → Nat) (off : Nat) (l : Nat → Nat) (st : Nat → Bool) : Nat → Nat → Nat
  | 0 => ct
  | k + 1 => if st k then updB (putTo ct off l st k) (off + k) (l k) else putTo ct off l st k
theorem putTo_at (ct : Nat → Nat) (off : Nat) (l : Nat → Nat) (st : Nat → Bool) (i : Nat) : ∀ k, putTo ct off l st k i = if off ≤ i ∧ i < off + k ∧ st (i - off) = true then l (i - off) else ct i
  | 0 => by rw [if_neg (by omega)]; rfl
  | k + 1 => by
    unfold putTo
    have ih := putTo_at ct off l st i k
    by_cases hs : st k = true
    · rw [if_pos hs]
      unfold updB
      by_cases hi : i = off + k
      · subst hi
        rw [if_pos rfl, Nat.add_sub_cancel_left, if_pos ⟨by omega, by omega, hs⟩]
      · rw [if_neg hi, ih]
        have : (off ≤ i ∧ i < off + k ∧ st (i - off) = true) ↔ (off ≤ i ∧ i < off + (k + 1) ∧ st (i - off) = true) := ⟨fun h => ⟨h.1, by omega, h.2.2⟩, fun h => ⟨h.1, by omega, h.2.2⟩⟩
        simp only [this]
    · rw [if_neg hs, ih]
      by_cases hi : i = off + k
      · subst hi
        rw [if_neg (by omega), if_neg]
        rw [Nat.add_sub_cancel_left]
        exact fun h => hs h.2.2
      · have : (off ≤ i ∧ i < off + k ∧ st (i - off) = true) ↔ (off ≤ i ∧ i < off + (k + 1) ∧ st (i - off) = true) := ⟨fun h => ⟨h.1, by omega, h.2.2⟩, fun h => ⟨h.1, by omega, h.2.2⟩⟩
        simp only [this]
/-- a number of an error; the world is not turned but for new blocks -/
def ErrNo (w : World) (k : Int) (e : Ending) (w' : World) : Prop := e = .returned (.int .i64 k) ∧ Below w.heap.size w w'
set_option maxRecDepth 100000 in
set_option maxHeartbeats 1000000 in
theorem ram_some_nil (x : Int) (a a2 : Option Addr) (m c m2 c2 : Nat) (w : World) : Calls Try.prog 46 #[.pointer none, .int .u64 x, .slice a m c, .slice a2 m2 c2] w (ErrNo w 2) := by
  have hB := Lib.hid (Below.refl w.heap.size w)
  go_enter Try.func46, Try.ntmps46
  go_wp2
  go_ret
  exact ⟨rfl, hB.out⟩
set_option maxRecDepth 100000 in
set_option maxHeartbeats 1000000 in
theorem ram_some_bus {w : World} {b n : Nat} {ct : Nat → Nat} {S : Nat → Prop} (h : RamAt w b n ct S) (x : Int) (x0 : 0 ≤ x) (x1 : x < 18446744073709551616) (a a2 : Option Addr) (m c m2 c2 : Nat) (hm : (m : Int) < 9223372036854775808) (ha : ramAll n x m = false) :
    Calls Try.prog 46 #[.pointer (some ⟨b, 0, none⟩), .int .u64 x, .slice a m c, .slice a2 m2 c2] w (ErrNo w 6) := by
  have HA := Lib.hid (ram_all_at h x x0 x1 m (by omega) hm)
  rw [ha] at HA
  clear h ha x0 x1
  go_enter Try.func46, Try.ntmps46
  go_wp2_with fail
  refine HA.out.mono ?_
  rintro e w1 ⟨rfl, hb⟩
  have HB := Lib.hid hb
  clear hb
  go_wp2
  go_ret
  exact ⟨rfl, HB.out⟩
/-- the strobe of index i -/
def stAt (m2 : Nat) (z : Nat → Bool) (i : Nat) : Bool := decide (i < m2) && z i
set_option maxRecDepth 100000 in
set_option maxHeartbeats 4000000 in
theorem ram_some_ok {w : World} {b n : Nat} {ct : Nat → Nat} {S : Nat → Prop} (h : RamAt w b n ct S) (x : Int) (x0 : 0 ≤ x) (x1 : x < 18446744073709551616) (a a2 : Option Addr) (m c m2 c2 : Nat) (ha : ramAll n x m = true)
    (l : List Int) (hl : IsB w a m l) (al : Apart S a) (z : Nat → Bool) (hz : IsRow w a2 m2 (fun i => .bool (z i))) (az : Apart S a2) (hm2 : (m2 : Int) ≤ 9223372036854775807) :
    Calls Try.prog 46 #[.pointer (some ⟨b, 0, none⟩), .int .u64 x, .slice a m c, .slice a2 m2 c2] w fun e w' => e = .returned (.int .i64 0) ∧ RamTo w w' b n (putTo ct (x - 2147483648).toNat (fun i => (l.getD i 0).toNat) (stAt m2 z) m) S := by
  have hlo := h.lo
  have hx : m = 0 ∨ (2147483648 ≤ x ∧ x - 2147483648 + m ≤ n * 4096) := by
    simp only [ramAll, isRam, Bool.or_eq_true, Bool.and_eq_true, decide_eq_true_eq] at ha
    omega
  have hk : (m : Int) ≤ 1048576 := by omega
  have HA := Lib.hid (ram_all_at h x x0 x1 m (by omega) (by omega))
  rw [ha] at HA
  have H := Lib.hid h.to
  have HX := Lib.hid hx
  have hn : (n : Int) ≤ 256 := by omega
  have HL := Lib.hid hl; have HAL := Lib.hid al; have HZ := Lib.hid hz; have HAZ := Lib.hid az
  have HF := Lib.hid (show ∀ i, i < m → (∃ b o, a = some ⟨b, o, none⟩) ∧ l.getD i 0 = ((l.getD i 0).toNat : Int) ∧ (l.getD i 0).toNat < 256 from fun i hi => by
    have h1 := hl.bd (l.getD i 0) (by have := hl.hlen; simp [List.getD, this, hi])
    refine ⟨?_, by omega, by omega⟩
    rcases hl.cell with ⟨_, h0⟩ | ⟨b, o, h, _⟩
    · omega
    · exact ⟨b, o, h⟩)
  clear h ha hx hlo hl al hz az
  generalize hO : (x - 2147483648).toNat = O at *
  have HO := Lib.hid hO
  clear hO
  have HS := Lib.hid (show ∀ k, putTo ct O (fun i => (l.getD i 0).toNat) (stAt m2 z) (k + 1) = if stAt m2 z k then updB (putTo ct O (fun i => (l.getD i 0).toNat) (stAt m2 z) k) (O + k) ((l.getD k 0).toNat) else putTo ct O (fun i => (l.getD i 0).toNat) (stAt m2 z) k from fun k => rfl)
  have HP0 := Lib.hid (show putTo ct O (fun i => (l.getD i 0).toNat) (stAt m2 z) 0 = ct from rfl)
  generalize putTo ct O (fun i => (l.getD i 0).toNat) (stAt m2 z) = F at *
  go_enter Try.func46, Try.ntmps46
  go_wp2_with fail
  refine HA.out.mono ?_
  rintro e w1 ⟨rfl, hb⟩
  have H1 : Hid (RamTo w w1 b n ct S) := H.out.below hb
  clear hb
  go_wp2_with fail
  go_loopw [23] (fun i wr => ∃ k : Nat, (k : Int) ≤ m ∧ i = .int .i64 k ∧ RamTo w wr b n (F k) S) (fun i _ => m - (intOf i).toNat)
  case atStart => exact ⟨0, by omega, rfl, by rw [HP0.out]; exact H1.out⟩
  case round =>
    clear H1
    obtain ⟨k, hk, rfl, hr⟩ := hrel
    have HR := Lib.hid hr
    clear hr
    by_cases hlt : (k : Int) < m
    · clear hk
      obtain ⟨⟨bb, oo, rfl⟩, hq, h255⟩ := HF.out k (by omega)
      obtain ⟨S', hat, ht, hsub, hnext⟩ := HR.out.step
      have hL2 := isB_turned HL.out ht HAL.out
      have hZ2 := isRow_turned HZ.out ht HAZ.out
      have hc : wr.cell? ⟨bb, oo + k, none⟩ = some (.int .u8 ((l.getD k 0).toNat : Nat)) := by
        rcases hL2.cell with ⟨h0, _⟩ | ⟨b', o', h1, h2⟩
        · cases h0
        · injection h1 with h1
          cases h1
          rw [h2 k (by omega), ← hq]
      have HN := Lib.hid hnext
      have HAT := Lib.hid hat
      have HXX := HX.out
      have hp : IntKind.u64.wrap (x - 2147483648) = x - 2147483648 := by rw [IntKind.wrap_u64]; omega
      have g0 : 0 ≤ x - 2147483648 := by omega
      have g1 : x - 2147483648 + k < 1048576 := by omega
      have HV := Lib.hid h255
      clear HXX hq h255 hat ht hsub hL2 hnext
      generalize hVV : (l.getD k 0).toNat = V at *
      have HVV := Lib.hid hVV
      clear hVV
      have fin_no : stAt m2 z k = false → Hid (RamTo w wr b n (F (k + 1)) S) := fun hs => by
        show RamTo _ _ _ _ _ _
        rw [HS.out k, hs]
        exact HR.out
      by_cases hk2 : (k : Int) < m2
      · obtain ⟨b2, o2, rfl, _, hc2⟩ := hZ2 (by omega)
        have hc3 : wr.cell? ⟨b2, o2 + k, none⟩ = some (.bool (z k)) := hc2 k (by omega)
        clear hc2 hZ2
        cases hz : z k with
        | false =>
          rw [hz] at hc3
          have FN := fin_no (by unfold stAt; simp [hz])
          clear fin_no hz
          go_wp2_with fail
          exact ⟨⟨k + 1, by omega, by rw [Int.natCast_succ], FN.out⟩, by simp [intOf]; omega⟩
        | true =>
          rw [hz] at hc3
          have FY : Hid (∀ w', RamTo wr w' b n (updB (F k) (O + k) V) S' → RamTo w w' b n (F (k + 1)) S) := fun w' hh => by
            rw [HS.out k, show stAt m2 z k = true by unfold stAt; simp [hz]; omega, if_pos rfl, HVV.out]
            exact HN.out _ _ hh
          clear fin_no hz
          go_wp2_with fail
          refine (ram_set_at HAT.out _ (by omega) (by omega) V HV.out).mono ?_
          rintro e w2 ⟨rfl, hh⟩
          have HO2 : (x - 2147483648 + (k : Int)).toNat = O + k := by have := HO.out; omega
          rw [HO2] at hh
          have FN := Lib.hid (FY.out _ hh)
          clear hh HO2
          go_wp2_with fail
          exact ⟨⟨k + 1, by omega, by rw [Int.natCast_succ], FN.out⟩, by simp [intOf]; omega⟩
      · have FN := fin_no (by unfold stAt; simp; omega)
        clear fin_no hZ2
        go_wp2_with fail
        exact ⟨⟨k + 1, by omega, by rw [Int.natCast_succ], FN.out⟩, by simp [intOf]; omega⟩
    · obtain rfl : k = m := by omega
      go_wp2_with fail
      go_ret
      exact ⟨rfl, HR.out⟩
end Go.Proofs.Ytebdbbpefmgooaa
