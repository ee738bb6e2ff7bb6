/- Contracts of ram.New, Some, Write. No condition. Contracts of ram.New, Write, Word, Put. No condition. Contracts of ram.New, Word, Put. No condition. -/
import Derived.Test.YtkogjjeoihnjpaaGreatPack6
import Derived.Deep.OwnRows
import Derived.StillTailTactics
import Derived.BigRegion
import Derived.Deep.RegionWith
import Derived.Deep.RegionHeld3
import Derived.Deep.QuietTactic
import Derived.BigQuiet
import Derived.Deep.LoopGhost
import Derived.Deep.DeepCutAuto
import Derived.Deep.DeepFit
import Derived.Deep.DeepMust
import Derived.Handy
section
set_option linter.unusedVariables false
set_option linter.unusedSimpArgs false
namespace Go.Proofs.YtkogjjeoihnjpaaGreat
open Go.RowKit
theorem RamAt.to {w : World} {b n : Nat} {ct : Nat → Nat} {S : Nat → Prop} (h : RamAt w b n ct S) : RamTo w w b n ct S := ⟨S, h, Turned.refl _ _, fun _ => .inl⟩
/-- from one to the next: the first has turned to wr, owning what it owned and new blocks -/
theorem RamTo.step {w wr : World} {b n : Nat} {ct : Nat → Nat} {S : Nat → Prop} (h : RamTo w wr b n ct S) : ∃ S', RamAt wr b n ct S' ∧ Turned S w wr ∧ (∀ g, S' g → S g ∨ w.heap.size ≤ g) ∧ (∀ w' ct', RamTo wr w' b n ct' S' → RamTo w w' b n ct' S) := by
  obtain ⟨S', h1, h2, h3⟩ := h
  refine ⟨S', h1, h2, h3, ?_⟩
  rintro w' ct' ⟨S'', k1, k2, k3⟩
  refine ⟨S'', k1, h2.trans k2 h3, fun g hg => ?_⟩
  rcases k3 g hg with h | h
  · exact h3 g h
  · have := h2.size; right; omega
theorem RamTo.below {w w1 w2 : World} {b n : Nat} {ct : Nat → Nat} {S : Nat → Prop} (h : RamTo w w1 b n ct S) (hb : Below w1.heap.size w1 w2) : RamTo w w2 b n ct S := by
  obtain ⟨S', h1, h2, h3, h4⟩ := h.step
  exact h4 w2 ct ⟨S', h1.below hb, Turned.of_below hb _, fun _ => .inl⟩
theorem RamTo.from_below {w w1 w2 : World} {b n : Nat} {ct : Nat → Nat} {S : Nat → Prop} (hb : Below w.heap.size w w1) (h : RamTo w1 w2 b n ct S) : RamTo w w2 b n ct S := by
  obtain ⟨S', h1, h2, h3⟩ := h
  refine ⟨S', h1, (Turned.of_below hb (fun _ => False)).mono (fun _ e => e.elim) |>.trans h2 (fun _ => .inl), fun g hg => ?_⟩
  rcases h3 g hg with h | h
  · exact .inl h
  · have := hb.size; right; omega
/-- a slice's cells lie in none of these blocks -/
def Apart (S : Nat → Prop) (a : Option Addr) : Prop := ∀ b o s, a = some ⟨b, o, s⟩ → ¬ S b
theorem isB_turned {w w' : World} {S : Nat → Prop} {a : Option Addr} {n : Nat} {l : List Int} (h : IsB w a n l) (ht : Turned S w w') (ha : Apart S a) : IsB w' a n l := by
  obtain ⟨h1, h2, h3⟩ := h
  refine ⟨h1, h2, h3.imp id ?_⟩
  rintro ⟨b, o, rfl, hc⟩
  refine ⟨b, o, rfl, fun i hi => ?_⟩
  have hlt : b < w.heap.size := World.block_lt_of_cell? w _ (hc i hi)
  rw [← hc i hi]
  unfold World.cell?
  simp only [ht.block b hlt (ha b o none rfl)]
theorem isRow_turned {w w' : World} {S : Nat → Prop} {a : Option Addr} {n : Nat} {V : Nat → Value} (h : IsRow w a n V) (ht : Turned S w w') (ha : Apart S a) : IsRow w' a n V := by
  intro hn
  obtain ⟨b, o, rfl, hlt, hc⟩ := h hn
  refine ⟨b, o, rfl, Nat.lt_of_lt_of_le hlt ht.size, fun i hi => ?_⟩
  rw [← hc i hi]
  unfold World.cell?
  simp only [ht.block b hlt (ha b o none rfl)]
/-- of the bytes l from off on the first k put in, where st says so -/
def putTo (ct : Nat → Nat) (off : Nat) (l : Nat → Nat) (st : Nat → Bool) : Nat → Nat → Nat
  | 0 => ct
  | k + 1 => if st k then updB (putTo ct off l st k) (off + k) (l k) else putTo ct off l st k
theorem putTo_at (ct : Nat → Nat) (off : Nat) (l : Nat → Nat) (st : Nat → Bool) (i : Nat) : ∀ k, putTo ct off l st k i = if off ≤ i ∧ i < off + k ∧ st (i - off) = true then l (i - off) else ct i
  | 0 => by rw [if_neg (by omega)]; rfl
  | k + 1 => by
    unfold putTo
    have ih := putTo_at ct off l st i k
    by_cases hs : st k = true
    · rw [if_pos hs]
      unfold updB
      by_cases hi : i = off + k
      · subst hi
        rw [if_pos rfl, Nat.add_sub_cancel_left, if_pos ⟨by omega, by omega, hs⟩]
      · rw [if_neg hi, ih]
        have : (off ≤ i ∧ i < off + k ∧ st (i - off) = true) ↔ (off ≤ i ∧ i < off + (k + 1) ∧ st (i - off) = true) := ⟨fun h => ⟨h.1, by omega, h.2.2⟩, fun h => ⟨h.1, by omega, h.2.2⟩⟩
        simp only [this]
    · rw [if_neg hs, ih]
      by_cases hi : i = off + k
      · subst hi
        rw [if_neg (by omega), if_neg]
        rw [Nat.add_sub_cancel_left]
        exact fun h => hs h.2.2
      · have : (off ≤ i ∧ i < off + k ∧ st (i - off) = true) ↔ (off ≤ i ∧ i < off + (k + 1) ∧ st (i - off) = true) := ⟨fun h => ⟨h.1, by omega, h.2.2⟩, fun h => ⟨h.1, by omega, h.2.2⟩⟩
        simp only [this]
/-- a number of an error; the world is not turned but for new blocks -/
def ErrNo (w : World) (k : Int) (e : Ending) (w' : World) : Prop := e = .returned (.int .i64 k) ∧ Below w.heap.size w w'
set_option maxRecDepth 100000 in
set_option maxHeartbeats 1000000 in
theorem ram_some_nil (x : Int) (a a2 : Option Addr) (m c m2 c2 : Nat) (w : World) : Calls Tryz.prog 198 #[.pointer none, .int .u64 x, .slice a m c, .slice a2 m2 c2] w (ErrNo w 2) := by
  have hB := Lib.hid (Below.refl w.heap.size w)
  go_enter Tryz.func198, Tryz.ntmps198
  go_wp2
  go_ret
  exact ⟨rfl, hB.out⟩
set_option maxRecDepth 100000 in
set_option maxHeartbeats 1000000 in
theorem ram_some_bus {w : World} {b n : Nat} {ct : Nat → Nat} {S : Nat → Prop} (h : RamAt w b n ct S) (x : Int) (x0 : 0 ≤ x) (x1 : x < 18446744073709551616) (a a2 : Option Addr) (m c m2 c2 : Nat) (hm : (m : Int) < 9223372036854775808) (ha : ramAll n x m = false) :
    Calls Tryz.prog 198 #[.pointer (some ⟨b, 0, none⟩), .int .u64 x, .slice a m c, .slice a2 m2 c2] w (ErrNo w 6) := by
  have HA := Lib.hid (ram_all_at h x x0 x1 m (by omega) hm)
  rw [ha] at HA
  clear h ha x0 x1
  go_enter Tryz.func198, Tryz.ntmps198
  go_wp2_with fail
  refine HA.out.mono ?_
  rintro e w1 ⟨rfl, hb⟩
  have HB := Lib.hid hb
  clear hb
  go_wp2
  go_ret
  exact ⟨rfl, HB.out⟩
/-- the strobe of index i -/
def stAt (m2 : Nat) (z : Nat → Bool) (i : Nat) : Bool := decide (i < m2) && z i
set_option maxRecDepth 100000 in
set_option maxHeartbeats 4000000 in
theorem ram_some_ok {w : World} {b n : Nat} {ct : Nat → Nat} {S : Nat → Prop} (h : RamAt w b n ct S) (x : Int) (x0 : 0 ≤ x) (x1 : x < 18446744073709551616) (a a2 : Option Addr) (m c m2 c2 : Nat) (ha : ramAll n x m = true)
    (l : List Int) (hl : IsB w a m l) (al : Apart S a) (z : Nat → Bool) (hz : IsRow w a2 m2 (fun i => .bool (z i))) (az : Apart S a2) (hm2 : (m2 : Int) ≤ 9223372036854775807) :
    Calls Tryz.prog 198 #[.pointer (some ⟨b, 0, none⟩), .int .u64 x, .slice a m c, .slice a2 m2 c2] w fun e w' => e = .returned (.int .i64 0) ∧ RamTo w w' b n (putTo ct (x - 2147483648).toNat (fun i => (l.getD i 0).toNat) (stAt m2 z) m) S := by
  have hlo := h.lo
  have hx : m = 0 ∨ (2147483648 ≤ x ∧ x - 2147483648 + m ≤ n * 4096) := by
    simp only [ramAll, isRam, Bool.or_eq_true, Bool.and_eq_true, decide_eq_true_eq] at ha
    omega
  have hk : (m : Int) ≤ 1048576 := by omega
  have HA := Lib.hid (ram_all_at h x x0 x1 m (by omega) (by omega))
  rw [ha] at HA
  have H := Lib.hid h.to
  have HX := Lib.hid hx
  have hn : (n : Int) ≤ 256 := by omega
  have HL := Lib.hid hl; have HAL := Lib.hid al; have HZ := Lib.hid hz; have HAZ := Lib.hid az
  have HF := Lib.hid (show ∀ i, i < m → (∃ b o, a = some ⟨b, o, none⟩) ∧ l.getD i 0 = ((l.getD i 0).toNat : Int) ∧ (l.getD i 0).toNat < 256 from fun i hi => by
    have h1 := hl.bd (l.getD i 0) (by have := hl.hlen; simp [List.getD, this, hi])
    refine ⟨?_, by omega, by omega⟩
    rcases hl.cell with ⟨_, h0⟩ | ⟨b, o, h, _⟩
    · omega
    · exact ⟨b, o, h⟩)
  clear h ha hx hlo hl al hz az
  generalize hO : (x - 2147483648).toNat = O at *
  have HO := Lib.hid hO
  clear hO
  have HS := Lib.hid (show ∀ k, putTo ct O (fun i => (l.getD i 0).toNat) (stAt m2 z) (k + 1) = if stAt m2 z k then updB (putTo ct O (fun i => (l.getD i 0).toNat) (stAt m2 z) k) (O + k) ((l.getD k 0).toNat) else putTo ct O (fun i => (l.getD i 0).toNat) (stAt m2 z) k from fun k => rfl)
  have HP0 := Lib.hid (show putTo ct O (fun i => (l.getD i 0).toNat) (stAt m2 z) 0 = ct from rfl)
  generalize putTo ct O (fun i => (l.getD i 0).toNat) (stAt m2 z) = F at *
  go_enter Tryz.func198, Tryz.ntmps198
  go_wp2_with fail
  refine HA.out.mono ?_
  rintro e w1 ⟨rfl, hb⟩
  have H1 : Hid (RamTo w w1 b n ct S) := H.out.below hb
  clear hb
  go_wp2_with fail
  go_loopw [23] (fun i wr => ∃ k : Nat, (k : Int) ≤ m ∧ i = .int .i64 k ∧ RamTo w wr b n (F k) S) (fun i _ => m - (intOf i).toNat)
  case atStart => exact ⟨0, by omega, rfl, by rw [HP0.out]; exact H1.out⟩
  case round =>
    clear H1
    obtain ⟨k, hk, rfl, hr⟩ := hrel
    have HR := Lib.hid hr
    clear hr
    by_cases hlt : (k : Int) < m
    · clear hk
      obtain ⟨⟨bb, oo, rfl⟩, hq, h255⟩ := HF.out k (by omega)
      obtain ⟨S', hat, ht, hsub, hnext⟩ := HR.out.step
      have hL2 := isB_turned HL.out ht HAL.out
      have hZ2 := isRow_turned HZ.out ht HAZ.out
      have hc : wr.cell? ⟨bb, oo + k, none⟩ = some (.int .u8 ((l.getD k 0).toNat : Nat)) := by
        rcases hL2.cell with ⟨h0, _⟩ | ⟨b', o', h1, h2⟩
        · cases h0
        · injection h1 with h1
          cases h1
          rw [h2 k (by omega), ← hq]
      have HN := Lib.hid hnext
      have HAT := Lib.hid hat
      have HXX := HX.out
      have hp : IntKind.u64.wrap (x - 2147483648) = x - 2147483648 := by rw [IntKind.wrap_u64]; omega
      have g0 : 0 ≤ x - 2147483648 := by omega
      have g1 : x - 2147483648 + k < 1048576 := by omega
      have HV := Lib.hid h255
      clear HXX hq h255 hat ht hsub hL2 hnext
      generalize hVV : (l.getD k 0).toNat = V at *
      have HVV := Lib.hid hVV
      clear hVV
      have fin_no : stAt m2 z k = false → Hid (RamTo w wr b n (F (k + 1)) S) := fun hs => by
        show RamTo _ _ _ _ _ _
        rw [HS.out k, hs]
        exact HR.out
      by_cases hk2 : (k : Int) < m2
      · obtain ⟨b2, o2, rfl, _, hc2⟩ := hZ2 (by omega)
        have hc3 : wr.cell? ⟨b2, o2 + k, none⟩ = some (.bool (z k)) := hc2 k (by omega)
        clear hc2 hZ2
        cases hz : z k with
        | false =>
          rw [hz] at hc3
          have FN := fin_no (by unfold stAt; simp [hz])
          clear fin_no hz
          go_wp2_with fail
          exact ⟨⟨k + 1, by omega, by rw [Int.natCast_succ], FN.out⟩, by simp [intOf]; omega⟩
        | true =>
          rw [hz] at hc3
          have FY : Hid (∀ w', RamTo wr w' b n (updB (F k) (O + k) V) S' → RamTo w w' b n (F (k + 1)) S) := fun w' hh => by
            rw [HS.out k, show stAt m2 z k = true by unfold stAt; simp [hz]; omega, if_pos rfl, HVV.out]
            exact HN.out _ _ hh
          clear fin_no hz
          go_wp2_with fail
          refine (ram_set_at HAT.out _ (by omega) (by omega) V HV.out).mono ?_
          rintro e w2 ⟨rfl, hh⟩
          have HO2 : (x - 2147483648 + (k : Int)).toNat = O + k := by have := HO.out; omega
          rw [HO2] at hh
          have FN := Lib.hid (FY.out _ hh)
          clear hh HO2
          go_wp2_with fail
          exact ⟨⟨k + 1, by omega, by rw [Int.natCast_succ], FN.out⟩, by simp [intOf]; omega⟩
      · have FN := fin_no (by unfold stAt; simp; omega)
        clear fin_no hZ2
        go_wp2_with fail
        exact ⟨⟨k + 1, by omega, by rw [Int.natCast_succ], FN.out⟩, by simp [intOf]; omega⟩
    · obtain rfl : k = m := by omega
      go_wp2_with fail
      go_ret
      exact ⟨rfl, HR.out⟩
end Go.Proofs.YtkogjjeoihnjpaaGreat
end
section
set_option linter.unusedVariables false
set_option linter.unusedSimpArgs false
namespace Go.Proofs.YtkogjjeoihnjpaaGreat
open Go.RowKit
set_option maxRecDepth 100000 in
set_option maxHeartbeats 4000000 in
theorem ram_write_ok {w : World} {b n : Nat} {ct : Nat → Nat} {S : Nat → Prop} (h : RamAt w b n ct S) (x : Int) (x0 : 0 ≤ x) (x1 : x < 18446744073709551616) (a : Option Addr) (m c : Nat) (ha : ramAll n x m = true)
    (l : List Int) (hl : IsB w a m l) (al : Apart S a) :
    Calls Tryz.prog 110 #[.pointer (some ⟨b, 0, none⟩), .int .u64 x, .slice a m c] w fun e w' => e = .returned (.int .i64 0) ∧ RamTo w w' b n (putTo ct (x - 2147483648).toNat (fun i => (l.getD i 0).toNat) (fun _ => true) m) S := by
  have hlo := h.lo
  have hk : (m : Int) ≤ 1048576 := by
    simp only [ramAll, isRam, Bool.or_eq_true, Bool.and_eq_true, decide_eq_true_eq] at ha
    omega
  have HK := Lib.hid (show ∀ i, i < m → stAt m (fun _ => true) i = (fun _ => true) i from fun i hi => by simp [stAt, hi])
  have H := Lib.hid h
  have HA := Lib.hid ha
  have HL := Lib.hid hl
  have HAL := Lib.hid al
  have HLT := Lib.hid (fun g (hg : S g) => h.lt hg)
  clear h ha hl al hlo
  have hmk : ∀ wq, (Instr.makeSlice 210 (.int .i64 (m : Int)) (.int .i64 (m : Int))).run Tryz.prog wq = .ok (.slice (some ⟨wq.heap.size, 0, none⟩) m m) (wq.alloc (.cells (madeCells #[.bool false] m) 4)) := fun wq => run_make_row' (P := Tryz.prog) 210 4 (.bool false) 1 Tryz.underlying210 A_info4 rfl .i64 .i64 m (by omega) (by omega) wq
  go_enter Tryz.func110, Tryz.ntmps110
  go_wp2_with fail
  clear hmk
  go_loopw [14] (fun i wr => ∃ k : Nat, (k : Int) ≤ m ∧ i = .int .i64 k ∧ wr.rowIs w.heap.size 4 m (fun j => .bool (decide (j < k))) ∧ Below w.heap.size w wr) (fun i _ => m - (intOf i).toNat)
  case atStart => exact ⟨0, by omega, rfl, (World.rowIs_made w (.bool false) m 4).congr (fun i _ => by simp), (Below.refl _ _).alloc (Nat.le_refl _) _⟩
  case round =>
    obtain ⟨k, hk2, rfl, hr, hb⟩ := hrel
    have HB := Lib.hid hb
    clear hb
    by_cases hlt : (k : Int) < m
    · have hc := hr.cell (i := k) (by omega)
      have hf := hr.frozen k
      simp only [Nat.lt_irrefl, decide_false] at hc
      have HS : Hid ((wr.setCell ⟨w.heap.size, k, none⟩ (.bool true)).rowIs w.heap.size 4 m (fun j => .bool (decide (j < k + 1)))) := (hr.set k (.bool true)).congr fun i _ => by
        by_cases hi : i = k
        · subst hi; simp
        · rw [if_neg hi]
          have : (i < k) ↔ (i < k + 1) := by omega
          simp only [this]
      clear hr hk2
      go_wp2_with fail
      exact ⟨⟨k + 1, by omega, by rw [Int.natCast_succ], HS.out, HB.out.setCell (Nat.le_refl _) _⟩, by simp [intOf]; omega⟩
    · obtain rfl : k = m := by omega
      have HR := Lib.hid hr
      have HAT := Lib.hid (H.out.below HB.out)
      have HL2 := Lib.hid (isB_turned HL.out (Turned.of_below HB.out S) HAL.out)
      have HRW : Hid (IsRow wr (some ⟨w.heap.size, 0, none⟩) k (fun i => .bool ((fun _ => true) i))) := by
        intro _
        refine ⟨w.heap.size, 0, rfl, HR.out.lt, fun i hi => ?_⟩
        rw [Nat.zero_add, HR.out.cell hi]
        simp [hi]
      have HAP : Hid (Apart S (some ⟨w.heap.size, 0, none⟩)) := by
        rintro b' o s he hS
        injection he with he
        injection he with he
        have := HLT.out b' hS
        omega
      clear hr hk2 HR
      go_wp2_with fail
      refine (ram_some_ok HAT.out x x0 x1 a _ k c k k HA.out l HL2.out HAL.out (fun _ => true) HRW.out HAP.out (by omega)).mono ?_
      rintro e w2 ⟨rfl, hh⟩
      have HF := Lib.hid (hh.from_below HB.out)
      clear hh
      go_wp2_with fail
      go_ret
      refine ⟨rfl, ?_⟩
      have e1 : putTo ct (x - 2147483648).toNat (fun i => (l.getD i 0).toNat) (fun _ => true) k = putTo ct (x - 2147483648).toNat (fun i => (l.getD i 0).toNat) (stAt k fun _ => true) k := by
        funext i
        rw [putTo_at, putTo_at]
        by_cases hi : (x - 2147483648).toNat ≤ i ∧ i < (x - 2147483648).toNat + k
        · rw [HK.out _ (by omega)]
        · rw [if_neg (fun h => hi ⟨h.1, h.2.1⟩), if_neg (fun h => hi ⟨h.1, h.2.1⟩)]
      rw [e1]
      exact HF.out
set_option maxRecDepth 100000 in
set_option maxHeartbeats 4000000 in
theorem ram_write_nil  (x : Int) (a : Option Addr) (m c : Nat) (hm : (m : Int) ≤ 140737488355328) (w : World) :
    Calls Tryz.prog 110 #[.pointer none, .int .u64 x, .slice a m c] w (ErrNo w 2) := by
  skip
  have hmk : ∀ wq, (Instr.makeSlice 210 (.int .i64 (m : Int)) (.int .i64 (m : Int))).run Tryz.prog wq = .ok (.slice (some ⟨wq.heap.size, 0, none⟩) m m) (wq.alloc (.cells (madeCells #[.bool false] m) 4)) := fun wq => run_make_row' (P := Tryz.prog) 210 4 (.bool false) 1 Tryz.underlying210 A_info4 rfl .i64 .i64 m (by omega) (by omega) wq
  go_enter Tryz.func110, Tryz.ntmps110
  go_wp2_with fail
  clear hmk
  go_loopw [14] (fun i wr => ∃ k : Nat, (k : Int) ≤ m ∧ i = .int .i64 k ∧ wr.rowIs w.heap.size 4 m (fun j => .bool (decide (j < k))) ∧ Below w.heap.size w wr) (fun i _ => m - (intOf i).toNat)
  case atStart => exact ⟨0, by omega, rfl, (World.rowIs_made w (.bool false) m 4).congr (fun i _ => by simp), (Below.refl _ _).alloc (Nat.le_refl _) _⟩
  case round =>
    obtain ⟨k, hk2, rfl, hr, hb⟩ := hrel
    have HB := Lib.hid hb
    clear hb
    by_cases hlt : (k : Int) < m
    · have hc := hr.cell (i := k) (by omega)
      have hf := hr.frozen k
      simp only [Nat.lt_irrefl, decide_false] at hc
      have HS : Hid ((wr.setCell ⟨w.heap.size, k, none⟩ (.bool true)).rowIs w.heap.size 4 m (fun j => .bool (decide (j < k + 1)))) := (hr.set k (.bool true)).congr fun i _ => by
        by_cases hi : i = k
        · subst hi; simp
        · rw [if_neg hi]
          have : (i < k) ↔ (i < k + 1) := by omega
          simp only [this]
      clear hr hk2
      go_wp2_with fail
      exact ⟨⟨k + 1, by omega, by rw [Int.natCast_succ], HS.out, HB.out.setCell (Nat.le_refl _) _⟩, by simp [intOf]; omega⟩
    · obtain rfl : k = m := by omega
      skip
      clear hr hk2
      go_wp2_with fail
      refine (ram_some_nil x a _ k c k k _).mono ?_
      rintro e w2 ⟨rfl, hh⟩
      have HF : Hid (Below w.heap.size w w2) := below_then HB.out hh HB.out.size
      clear hh
      go_wp2_with fail
      go_ret
      exact ⟨rfl, HF.out⟩
set_option maxRecDepth 100000 in
set_option maxHeartbeats 4000000 in
theorem ram_write_bus {w : World} {b n : Nat} {ct : Nat → Nat} {S : Nat → Prop} (h : RamAt w b n ct S) (x : Int) (x0 : 0 ≤ x) (x1 : x < 18446744073709551616) (a : Option Addr) (m c : Nat) (hm : (m : Int) ≤ 140737488355328) (ha : ramAll n x m = false) :
    Calls Tryz.prog 110 #[.pointer (some ⟨b, 0, none⟩), .int .u64 x, .slice a m c] w (ErrNo w 6) := by
  have H := Lib.hid h
  have HA := Lib.hid ha
  clear h ha
  have hmk : ∀ wq, (Instr.makeSlice 210 (.int .i64 (m : Int)) (.int .i64 (m : Int))).run Tryz.prog wq = .ok (.slice (some ⟨wq.heap.size, 0, none⟩) m m) (wq.alloc (.cells (madeCells #[.bool false] m) 4)) := fun wq => run_make_row' (P := Tryz.prog) 210 4 (.bool false) 1 Tryz.underlying210 A_info4 rfl .i64 .i64 m (by omega) (by omega) wq
  go_enter Tryz.func110, Tryz.ntmps110
  go_wp2_with fail
  clear hmk
  go_loopw [14] (fun i wr => ∃ k : Nat, (k : Int) ≤ m ∧ i = .int .i64 k ∧ wr.rowIs w.heap.size 4 m (fun j => .bool (decide (j < k))) ∧ Below w.heap.size w wr) (fun i _ => m - (intOf i).toNat)
  case atStart => exact ⟨0, by omega, rfl, (World.rowIs_made w (.bool false) m 4).congr (fun i _ => by simp), (Below.refl _ _).alloc (Nat.le_refl _) _⟩
  case round =>
    obtain ⟨k, hk2, rfl, hr, hb⟩ := hrel
    have HB := Lib.hid hb
    clear hb
    by_cases hlt : (k : Int) < m
    · have hc := hr.cell (i := k) (by omega)
      have hf := hr.frozen k
      simp only [Nat.lt_irrefl, decide_false] at hc
      have HS : Hid ((wr.setCell ⟨w.heap.size, k, none⟩ (.bool true)).rowIs w.heap.size 4 m (fun j => .bool (decide (j < k + 1)))) := (hr.set k (.bool true)).congr fun i _ => by
        by_cases hi : i = k
        · subst hi; simp
        · rw [if_neg hi]
          have : (i < k) ↔ (i < k + 1) := by omega
          simp only [this]
      clear hr hk2
      go_wp2_with fail
      exact ⟨⟨k + 1, by omega, by rw [Int.natCast_succ], HS.out, HB.out.setCell (Nat.le_refl _) _⟩, by simp [intOf]; omega⟩
    · obtain rfl : k = m := by omega
      have HAT := Lib.hid (H.out.below HB.out)
      clear hr hk2
      go_wp2_with fail
      refine (ram_some_bus HAT.out x x0 x1 a _ k c k k (by omega) HA.out).mono ?_
      rintro e w2 ⟨rfl, hh⟩
      have HF : Hid (Below w.heap.size w w2) := below_then HB.out hh HB.out.size
      clear hh
      go_wp2_with fail
      go_ret
      exact ⟨rfl, HF.out⟩
/-- why there is no such word: 0 if there is -/
def mayErr (n : Nat) (x : Int) (k : Int) : Int :=
  if k = 1 ∨ k = 2 ∨ k = 4 ∨ k = 8 then (if x % k = 0 then (if ramAll n x k then 0 else 6) else 5) else 1
set_option maxRecDepth 100000 in
set_option maxHeartbeats 1000000 in
theorem ram_may_nil (x k : Int) (w : World) : Calls Tryz.prog 75 #[.pointer none, .int .u64 x, .int .i64 k] w (ErrNo w 2) := by
  have hB := Lib.hid (Below.refl w.heap.size w)
  go_enter Tryz.func75, Tryz.ntmps75
  go_wp2
  go_ret
  exact ⟨rfl, hB.out⟩
set_option maxRecDepth 100000 in
set_option maxHeartbeats 1000000 in
theorem ram_may_arg (b : Nat) (x k : Int) (h1 : ¬ k = 1) (h2 : ¬ k = 2) (h4 : ¬ k = 4) (h8 : ¬ k = 8) (w : World) : Calls Tryz.prog 75 #[.pointer (some ⟨b, 0, none⟩), .int .u64 x, .int .i64 k] w (ErrNo w 1) := by
  have hB := Lib.hid (Below.refl w.heap.size w)
  have e1 : (k != 1) = true := by simpa using h1
  have e2 : (k != 2) = true := by simpa using h2
  have e4 : (k != 4) = true := by simpa using h4
  have e8 : (k != 8) = true := by simpa using h8
  clear h1 h2 h4 h8
  go_enter Tryz.func75, Tryz.ntmps75
  go_wp2_with fail
  go_ret
  exact ⟨rfl, hB.out⟩
set_option maxRecDepth 100000 in
set_option maxHeartbeats 2000000 in
theorem ram_may_1 {w : World} {b n : Nat} {ct : Nat → Nat} {S : Nat → Prop} (h : RamAt w b n ct S) (x : Int) (x0 : 0 ≤ x) (x1 : x < 18446744073709551616) :
    Calls Tryz.prog 75 #[.pointer (some ⟨b, 0, none⟩), .int .u64 x, .int .i64 1] w (ErrNo w (mayErr n x 1)) := by
  have HM := Lib.hid (show mayErr n x 1 = if x % 1 = 0 then (if ramAll n x 1 then 0 else 6) else 5 by unfold mayErr; rw [if_pos (by omega)])
  have HAL := Lib.hid (bits_aligned x x0 1 (by omega) (by omega))
  have HA := Lib.hid (fun wq (hq : RamAt wq b n ct S) => ram_all_at hq x x0 x1 1 (by omega) (by omega))
  have H := Lib.hid h
  clear h x0 x1
  generalize hR : ramAll n x 1 = R at *
  by_cases hx : x % 1 = 0
  · rw [if_pos hx] at HM
    rw [show decide (x % (1 : Nat) = 0) = true from decide_eq_true (show x % ((1 : Nat) : Int) = 0 from hx)] at HAL
    have hx := Lib.hid hx
    cases R with
    | true =>
      go_enter Tryz.func75, Tryz.ntmps75
      go_wp2_with fail
      refine (HAL.out _).mono ?_
      rintro e w1 ⟨rfl, rfl⟩
      go_wp2_with fail
      refine (HA.out _ H.out).mono ?_
      rintro e w1 ⟨rfl, hb⟩
      have HB := Lib.hid hb
      clear hb
      go_wp2_with fail
      go_ret
      exact ⟨ret_int (by rw [HM.out]; rfl), HB.out⟩
    | false =>
      go_enter Tryz.func75, Tryz.ntmps75
      go_wp2_with fail
      refine (HAL.out _).mono ?_
      rintro e w1 ⟨rfl, rfl⟩
      go_wp2_with fail
      refine (HA.out _ H.out).mono ?_
      rintro e w1 ⟨rfl, hb⟩
      have HB := Lib.hid hb
      clear hb
      go_wp2_with fail
      go_ret
      exact ⟨ret_int (by rw [HM.out]; rfl), HB.out⟩
  · rw [if_neg hx] at HM
    rw [show decide (x % (1 : Nat) = 0) = false from decide_eq_false (show ¬ x % ((1 : Nat) : Int) = 0 from hx)] at HAL
    have hx := Lib.hid hx
    have hB := Lib.hid (Below.refl w.heap.size w)
    go_enter Tryz.func75, Tryz.ntmps75
    go_wp2_with fail
    refine (HAL.out _).mono ?_
    rintro e w1 ⟨rfl, rfl⟩
    go_wp2_with fail
    go_ret
    exact ⟨ret_int (by rw [HM.out]), hB.out⟩
set_option maxRecDepth 100000 in
set_option maxHeartbeats 2000000 in
theorem ram_may_2 {w : World} {b n : Nat} {ct : Nat → Nat} {S : Nat → Prop} (h : RamAt w b n ct S) (x : Int) (x0 : 0 ≤ x) (x1 : x < 18446744073709551616) :
    Calls Tryz.prog 75 #[.pointer (some ⟨b, 0, none⟩), .int .u64 x, .int .i64 2] w (ErrNo w (mayErr n x 2)) := by
  have HM := Lib.hid (show mayErr n x 2 = if x % 2 = 0 then (if ramAll n x 2 then 0 else 6) else 5 by unfold mayErr; rw [if_pos (by omega)])
  have HAL := Lib.hid (bits_aligned x x0 2 (by omega) (by omega))
  have HA := Lib.hid (fun wq (hq : RamAt wq b n ct S) => ram_all_at hq x x0 x1 2 (by omega) (by omega))
  have H := Lib.hid h
  clear h x0 x1
  generalize hR : ramAll n x 2 = R at *
  by_cases hx : x % 2 = 0
  · rw [if_pos hx] at HM
    rw [show decide (x % (2 : Nat) = 0) = true from decide_eq_true (show x % ((2 : Nat) : Int) = 0 from hx)] at HAL
    have hx := Lib.hid hx
    cases R with
    | true =>
      go_enter Tryz.func75, Tryz.ntmps75
      go_wp2_with fail
      refine (HAL.out _).mono ?_
      rintro e w1 ⟨rfl, rfl⟩
      go_wp2_with fail
      refine (HA.out _ H.out).mono ?_
      rintro e w1 ⟨rfl, hb⟩
      have HB := Lib.hid hb
      clear hb
      go_wp2_with fail
      go_ret
      exact ⟨ret_int (by rw [HM.out]; rfl), HB.out⟩
    | false =>
      go_enter Tryz.func75, Tryz.ntmps75
      go_wp2_with fail
      refine (HAL.out _).mono ?_
      rintro e w1 ⟨rfl, rfl⟩
      go_wp2_with fail
      refine (HA.out _ H.out).mono ?_
      rintro e w1 ⟨rfl, hb⟩
      have HB := Lib.hid hb
      clear hb
      go_wp2_with fail
      go_ret
      exact ⟨ret_int (by rw [HM.out]; rfl), HB.out⟩
  · rw [if_neg hx] at HM
    rw [show decide (x % (2 : Nat) = 0) = false from decide_eq_false (show ¬ x % ((2 : Nat) : Int) = 0 from hx)] at HAL
    have hx := Lib.hid hx
    have hB := Lib.hid (Below.refl w.heap.size w)
    go_enter Tryz.func75, Tryz.ntmps75
    go_wp2_with fail
    refine (HAL.out _).mono ?_
    rintro e w1 ⟨rfl, rfl⟩
    go_wp2_with fail
    go_ret
    exact ⟨ret_int (by rw [HM.out]), hB.out⟩
set_option maxRecDepth 100000 in
set_option maxHeartbeats 2000000 in
theorem ram_may_4 {w : World} {b n : Nat} {ct : Nat → Nat} {S : Nat → Prop} (h : RamAt w b n ct S) (x : Int) (x0 : 0 ≤ x) (x1 : x < 18446744073709551616) :
    Calls Tryz.prog 75 #[.pointer (some ⟨b, 0, none⟩), .int .u64 x, .int .i64 4] w (ErrNo w (mayErr n x 4)) := by
  have HM := Lib.hid (show mayErr n x 4 = if x % 4 = 0 then (if ramAll n x 4 then 0 else 6) else 5 by unfold mayErr; rw [if_pos (by omega)])
  have HAL := Lib.hid (bits_aligned x x0 4 (by omega) (by omega))
  have HA := Lib.hid (fun wq (hq : RamAt wq b n ct S) => ram_all_at hq x x0 x1 4 (by omega) (by omega))
  have H := Lib.hid h
  clear h x0 x1
  generalize hR : ramAll n x 4 = R at *
  by_cases hx : x % 4 = 0
  · rw [if_pos hx] at HM
    rw [show decide (x % (4 : Nat) = 0) = true from decide_eq_true (show x % ((4 : Nat) : Int) = 0 from hx)] at HAL
    have hx := Lib.hid hx
    cases R with
    | true =>
      go_enter Tryz.func75, Tryz.ntmps75
      go_wp2_with fail
      refine (HAL.out _).mono ?_
      rintro e w1 ⟨rfl, rfl⟩
      go_wp2_with fail
      refine (HA.out _ H.out).mono ?_
      rintro e w1 ⟨rfl, hb⟩
      have HB := Lib.hid hb
      clear hb
      go_wp2_with fail
      go_ret
      exact ⟨ret_int (by rw [HM.out]; rfl), HB.out⟩
    | false =>
      go_enter Tryz.func75, Tryz.ntmps75
      go_wp2_with fail
      refine (HAL.out _).mono ?_
      rintro e w1 ⟨rfl, rfl⟩
      go_wp2_with fail
      refine (HA.out _ H.out).mono ?_
      rintro e w1 ⟨rfl, hb⟩
      have HB := Lib.hid hb
      clear hb
      go_wp2_with fail
      go_ret
      exact ⟨ret_int (by rw [HM.out]; rfl), HB.out⟩
  · rw [if_neg hx] at HM
    rw [show decide (x % (4 : Nat) = 0) = false from decide_eq_false (show ¬ x % ((4 : Nat) : Int) = 0 from hx)] at HAL
    have hx := Lib.hid hx
    have hB := Lib.hid (Below.refl w.heap.size w)
    go_enter Tryz.func75, Tryz.ntmps75
    go_wp2_with fail
    refine (HAL.out _).mono ?_
    rintro e w1 ⟨rfl, rfl⟩
    go_wp2_with fail
    go_ret
    exact ⟨ret_int (by rw [HM.out]), hB.out⟩
set_option maxRecDepth 100000 in
set_option maxHeartbeats 2000000 in
theorem ram_may_8 {w : World} {b n : Nat} {ct : Nat → Nat} {S : Nat → Prop} (h : RamAt w b n ct S) (x : Int) (x0 : 0 ≤ x) (x1 : x < 18446744073709551616) :
    Calls Tryz.prog 75 #[.pointer (some ⟨b, 0, none⟩), .int .u64 x, .int .i64 8] w (ErrNo w (mayErr n x 8)) := by
  have HM := Lib.hid (show mayErr n x 8 = if x % 8 = 0 then (if ramAll n x 8 then 0 else 6) else 5 by unfold mayErr; rw [if_pos (by omega)])
  have HAL := Lib.hid (bits_aligned x x0 8 (by omega) (by omega))
  have HA := Lib.hid (fun wq (hq : RamAt wq b n ct S) => ram_all_at hq x x0 x1 8 (by omega) (by omega))
  have H := Lib.hid h
  clear h x0 x1
  generalize hR : ramAll n x 8 = R at *
  by_cases hx : x % 8 = 0
  · rw [if_pos hx] at HM
    rw [show decide (x % (8 : Nat) = 0) = true from decide_eq_true (show x % ((8 : Nat) : Int) = 0 from hx)] at HAL
    have hx := Lib.hid hx
    cases R with
    | true =>
      go_enter Tryz.func75, Tryz.ntmps75
      go_wp2_with fail
      refine (HAL.out _).mono ?_
      rintro e w1 ⟨rfl, rfl⟩
      go_wp2_with fail
      refine (HA.out _ H.out).mono ?_
      rintro e w1 ⟨rfl, hb⟩
      have HB := Lib.hid hb
      clear hb
      go_wp2_with fail
      go_ret
      exact ⟨ret_int (by rw [HM.out]; rfl), HB.out⟩
    | false =>
      go_enter Tryz.func75, Tryz.ntmps75
      go_wp2_with fail
      refine (HAL.out _).mono ?_
      rintro e w1 ⟨rfl, rfl⟩
      go_wp2_with fail
      refine (HA.out _ H.out).mono ?_
      rintro e w1 ⟨rfl, hb⟩
      have HB := Lib.hid hb
      clear hb
      go_wp2_with fail
      go_ret
      exact ⟨ret_int (by rw [HM.out]; rfl), HB.out⟩
  · rw [if_neg hx] at HM
    rw [show decide (x % (8 : Nat) = 0) = false from decide_eq_false (show ¬ x % ((8 : Nat) : Int) = 0 from hx)] at HAL
    have hx := Lib.hid hx
    have hB := Lib.hid (Below.refl w.heap.size w)
    go_enter Tryz.func75, Tryz.ntmps75
    go_wp2_with fail
    refine (HAL.out _).mono ?_
    rintro e w1 ⟨rfl, rfl⟩
    go_wp2_with fail
    go_ret
    exact ⟨ret_int (by rw [HM.out]), hB.out⟩
theorem ram_may {w : World} {b n : Nat} {ct : Nat → Nat} {S : Nat → Prop} (h : RamAt w b n ct S) (x : Int) (x0 : 0 ≤ x) (x1 : x < 18446744073709551616) (k : Int) :
    Calls Tryz.prog 75 #[.pointer (some ⟨b, 0, none⟩), .int .u64 x, .int .i64 k] w (ErrNo w (mayErr n x k)) := by
  by_cases h1 : k = 1
  · subst h1; exact ram_may_1 h x x0 x1
  by_cases h2 : k = 2
  · subst h2; exact ram_may_2 h x x0 x1
  by_cases h4 : k = 4
  · subst h4; exact ram_may_4 h x x0 x1
  by_cases h8 : k = 8
  · subst h8; exact ram_may_8 h x x0 x1
  have e : mayErr n x k = 1 := by unfold mayErr; rw [if_neg (by omega)]
  rw [e]
  exact ram_may_arg b x k h1 h2 h4 h8 w
end Go.Proofs.YtkogjjeoihnjpaaGreat
end
section
set_option linter.unusedVariables false
set_option linter.unusedSimpArgs false
namespace Go.Proofs.YtkogjjeoihnjpaaGreat
open Go.RowKit
/-- a memory that is all 0, in new blocks -/
def NewRam (w : World) (n : Nat) (e : Ending) (w' : World) : Prop := ∃ b S, e = .returned (.tuple #[.pointer (some ⟨b, 0, none⟩), .int .i64 0]) ∧ RamAt w' b n (fun _ => 0) S ∧ (∀ g, S g → w.heap.size ≤ g) ∧ w.heap.size ≤ b ∧ Below w.heap.size w w'
theorem new_ram (w w' : World) (n : Nat) (h4 : 4 ≤ n) (h256 : n ≤ 256) (hw : w' = (w.alloc (.map #[] 0)).alloc (.cells #[.int .i64 n, .map (some w.heap.size)] 136)) : RamAt w' (w.heap.size + 1) n (fun _ => 0) (RamOwn w.heap.size fun _ => none) := by
  subst hw
  refine ⟨w.heap.size, fun _ => none, ⟨?_, h4, h256, ⟨.map [], (PgMap.new w).kept ?_⟩, (fun k g h => by cases h), fun _ _ _ _ => rfl, (fun k k' g h => by cases h), fun _ => by omega, (fun k h => by cases h)⟩, rfl⟩
  · have := blk_alloc (w.alloc (.map #[] 0)) (.cells #[.int .i64 n, .map (some w.heap.size)] 136)
    simpa using this
  · exact blk_alloc_old _ _ _ (by simp)
set_option maxRecDepth 100000 in
set_option maxHeartbeats 1000000 in
theorem ram_new (n : Nat) (h4 : 4 ≤ n) (h256 : n ≤ 256) (w : World) : Calls Tryz.prog 158 #[.int .i64 n] w (NewRam w n) := by
  have h1 : (4 : Int) ≤ n := by omega
  have h2 : (n : Int) ≤ 256 := by omega
  have HN := Lib.hid (new_ram w _ n h4 h256 rfl)
  have HB := Lib.hid (((Below.refl w.heap.size w).alloc (Nat.le_refl _) (.map #[] 0)).alloc (by simp) (.cells #[.int .i64 n, .map (some w.heap.size)] 136))
  clear h4 h256
  have hmm := @run_makeMap Tryz.prog
  go_enter Tryz.func158, Tryz.ntmps158
  go_wp2_with fail
  clear hmm
  go_ret2
  exact ⟨w.heap.size + 1, _, rfl, HN.out, (by rintro g (rfl | ⟨k, hk⟩); exact Nat.le_refl _; cases hk), by omega, HB.out⟩
set_option maxRecDepth 100000 in
set_option maxHeartbeats 1000000 in
theorem ram_new_arg (n : Int) (h : n < 4 ∨ 256 < n) (w : World) : Calls Tryz.prog 158 #[.int .i64 n] w fun e w' => e = .returned (.tuple #[.pointer none, .int .i64 1]) ∧ w = w' := by
  by_cases h4 : n < 4
  · clear h
    go_enter Tryz.func158, Tryz.ntmps158
    go_wp2_with fail
    go_ret2
    exact ⟨rfl, rfl⟩
  · have h256 : 256 < n := by omega
    have h4 : 4 ≤ n := by omega
    clear h
    go_enter Tryz.func158, Tryz.ntmps158
    go_wp2_with fail
    go_ret2
    exact ⟨rfl, rfl⟩
theorem mayErr_0 {n : Nat} {x k : Int} (h : mayErr n x k = 0) : (k = 1 ∨ k = 2 ∨ k = 4 ∨ k = 8) ∧ x % k = 0 ∧ ramAll n x k = true := by
  unfold mayErr at h
  split at h
  · rename_i hk
    split at h
    · rename_i hx
      split at h
      · rename_i ha
        exact ⟨hk, hx, ha⟩
      · omega
    · omega
  · omega
/-- a number of an error that is none, or the word -/
def WordOr (w : World) (e : Ending) (w' : World) (er : Int) (v : Nat) : Prop := e = .returned (.tuple #[.int .u64 v, .int .i64 er]) ∧ Below w.heap.size w w'
set_option maxRecDepth 100000 in
set_option maxHeartbeats 1000000 in
theorem ram_word_nil (x k : Int) (w : World) : Calls Tryz.prog 30 #[.pointer none, .int .u64 x, .int .i64 k] w (WordOr w · · 2 0) := by
  go_enter Tryz.func30, Tryz.ntmps30
  go_wp2_with fail
  refine (ram_may_nil x k _).mono ?_
  rintro e w1 ⟨rfl, hb⟩
  have HB := Lib.hid hb
  clear hb
  go_wp2_with fail
  go_ret2
  exact ⟨rfl, HB.out⟩
set_option maxRecDepth 100000 in
set_option maxHeartbeats 1000000 in
theorem ram_word_err {w : World} {b n : Nat} {ct : Nat → Nat} {S : Nat → Prop} (h : RamAt w b n ct S) (x : Int) (x0 : 0 ≤ x) (x1 : x < 18446744073709551616) (k : Int) (hm : mayErr n x k ≠ 0) :
    Calls Tryz.prog 30 #[.pointer (some ⟨b, 0, none⟩), .int .u64 x, .int .i64 k] w (WordOr w · · (mayErr n x k) 0) := by
  have HM := Lib.hid (ram_may h x x0 x1 k)
  generalize mayErr n x k = E at *
  have he : (E != 0) = true := by simpa using hm
  clear h x0 x1 hm
  go_enter Tryz.func30, Tryz.ntmps30
  go_wp2_with fail
  refine HM.out.mono ?_
  rintro e w1 ⟨rfl, hb⟩
  have HB := Lib.hid hb
  clear hb
  go_wp2_with fail
  go_ret2
  exact ⟨rfl, HB.out⟩
/-- the word of so many bytes from off on -/
def wordAt (ct : Nat → Nat) (off k : Nat) : Nat := wordN (fun i => ct (off + i)) k
set_option maxRecDepth 100000 in
set_option maxHeartbeats 1000000 in
theorem ram_word_ok {w : World} {b n : Nat} {ct : Nat → Nat} {S : Nat → Prop} (h : RamAt w b n ct S) (x : Int) (x0 : 0 ≤ x) (x1 : x < 18446744073709551616) (k : Int) (hm : mayErr n x k = 0) :
    Calls Tryz.prog 30 #[.pointer (some ⟨b, 0, none⟩), .int .u64 x, .int .i64 k] w (WordOr w · · 0 (wordAt ct (x - 2147483648).toNat k.toNat)) := by
  have HM := Lib.hid (ram_may h x x0 x1 k)
  obtain ⟨hk, _, ha⟩ := mayErr_0 hm
  rw [hm] at HM
  obtain ⟨m, rfl⟩ := Int.eq_ofNat_of_zero_le (show 0 ≤ k by omega)
  have hm8 : (m : Int) ≤ 8 := by omega
  have HR := Lib.hid (fun wq (hq : RamAt wq b n ct S) => ram_read_ok hq x x0 x1 m ha)
  have H := Lib.hid h
  have HBD := Lib.hid (bytesAt_bd h.bd (x - 2147483648).toNat m)
  have HWD : Hid (wordN (fun i => ((bytesAt ct (x - 2147483648).toNat m).getD i 0).toNat) (min m 8) = wordAt ct (x - 2147483648).toNat m) := by
    show _ = _
    rw [show min m 8 = m by omega]
    refine wordN_congr m fun i hi => ?_
    rw [bytesAt_getD _ _ _ _ hi]
    simp
  clear h hk ha x0 x1 hm
  rw [Int.toNat_natCast]
  generalize bytesAt ct (x - 2147483648).toNat m = L at *
  generalize wordAt ct (x - 2147483648).toNat m = V at *
  go_enter Tryz.func30, Tryz.ntmps30
  go_wp2_with fail
  refine HM.out.mono ?_
  rintro e w1 ⟨rfl, hb⟩
  have HB := Lib.hid hb
  clear hb
  go_wp2_with fail
  refine (HR.out _ (H.out.below HB.out)).mono ?_
  rintro e w2 ⟨v, rfl, hown, hb⟩
  obtain ⟨a, c, rfl, hib⟩ := bytes_own hown HBD.out
  have HB2 : Hid (Below w.heap.size w w2) := below_then HB.out hb HB.out.size
  have HIB := Lib.hid hib
  clear hb hown hib
  go_wp2_with fail
  refine (bits_word a m c L _ HIB.out (by omega)).mono ?_
  rintro e w3 ⟨rfl, rfl⟩
  rw [HWD.out]
  go_wp2_with fail
  go_ret2
  exact ⟨rfl, HB2.out⟩
set_option maxRecDepth 100000 in
set_option maxHeartbeats 1000000 in
theorem ram_put_nil (x k v : Int) (w : World) : Calls Tryz.prog 48 #[.pointer none, .int .u64 x, .int .i64 k, .int .u64 v] w (ErrNo w 2) := by
  go_enter Tryz.func48, Tryz.ntmps48
  go_wp2_with fail
  refine (ram_may_nil x k _).mono ?_
  rintro e w1 ⟨rfl, hb⟩
  have HB := Lib.hid hb
  clear hb
  go_wp2_with fail
  go_ret
  exact ⟨rfl, HB.out⟩
set_option maxRecDepth 100000 in
set_option maxHeartbeats 1000000 in
theorem ram_put_err {w : World} {b n : Nat} {ct : Nat → Nat} {S : Nat → Prop} (h : RamAt w b n ct S) (x : Int) (x0 : 0 ≤ x) (x1 : x < 18446744073709551616) (k v : Int) (hm : mayErr n x k ≠ 0) :
    Calls Tryz.prog 48 #[.pointer (some ⟨b, 0, none⟩), .int .u64 x, .int .i64 k, .int .u64 v] w (ErrNo w (mayErr n x k)) := by
  have HM := Lib.hid (ram_may h x x0 x1 k)
  generalize mayErr n x k = E at *
  have he : (E != 0) = true := by simpa using hm
  clear h x0 x1 hm
  go_enter Tryz.func48, Tryz.ntmps48
  go_wp2_with fail
  refine HM.out.mono ?_
  rintro e w1 ⟨rfl, hb⟩
  have HB := Lib.hid hb
  clear hb
  go_wp2_with fail
  go_ret
  exact ⟨rfl, HB.out⟩
/-- a number's bytes put in -/
def putWord (ct : Nat → Nat) (off k v : Nat) : Nat → Nat := fun i => if off ≤ i ∧ i < off + k then v / 2 ^ (8 * (i - off)) % 256 else ct i
theorem numBytes_getD (v k i : Nat) (h : i < k) : (numBytes v k).getD i 0 = ((v / 2 ^ (8 * i) % 256 : Nat) : Int) := by simp [numBytes, List.getD, h]
theorem putTo_word (ct : Nat → Nat) (off k v : Nat) : putTo ct off (fun i => ((numBytes v k).getD i 0).toNat) (fun _ => true) k = putWord ct off k v := by
  funext i
  rw [putTo_at]
  unfold putWord
  by_cases hi : off ≤ i ∧ i < off + k
  · rw [if_pos ⟨hi.1, hi.2, rfl⟩, if_pos hi, numBytes_getD _ _ _ (by omega)]
    omega
  · rw [if_neg (fun h => hi ⟨h.1, h.2.1⟩), if_neg hi]
set_option maxRecDepth 100000 in
set_option maxHeartbeats 1000000 in
theorem ram_put_ok {w : World} {b n : Nat} {ct : Nat → Nat} {S : Nat → Prop} (h : RamAt w b n ct S) (x : Int) (x0 : 0 ≤ x) (x1 : x < 18446744073709551616) (k : Int) (v : Nat) (hm : mayErr n x k = 0) :
    Calls Tryz.prog 48 #[.pointer (some ⟨b, 0, none⟩), .int .u64 x, .int .i64 k, .int .u64 v] w fun e w' => e = .returned (.int .i64 0) ∧ RamTo w w' b n (putWord ct (x - 2147483648).toNat k.toNat v) S := by
  have HM := Lib.hid (ram_may h x x0 x1 k)
  obtain ⟨hk, _, ha⟩ := mayErr_0 hm
  rw [hm] at HM
  obtain ⟨m, rfl⟩ := Int.eq_ofNat_of_zero_le (show 0 ≤ k by omega)
  have hm8 : (m : Int) ≤ 8 := by omega
  have H := Lib.hid h
  have HA := Lib.hid ha
  have HX := Lib.hid (And.intro x0 x1)
  have HLT := Lib.hid (fun g (hg : S g) => h.lt hg)
  clear h hk ha x0 x1 hm
  rw [Int.toNat_natCast]
  go_enter Tryz.func48, Tryz.ntmps48
  go_wp2_with fail
  refine HM.out.mono ?_
  rintro e w1 ⟨rfl, hb⟩
  have HB := Lib.hid hb
  clear hb
  go_wp2_with fail
  refine (bits_bytes v m hm8 _).mono ?_
  rintro e w2 ⟨s, rfl, hown, hb⟩
  obtain ⟨a, c, rfl, hib⟩ := bytes_own hown (numBytes_bd _ _)
  have HAP : Hid (Apart S a) := by
    rintro b' o s rfl hS
    have h1 := HLT.out b' hS
    have h2 := HB.out.size
    rcases hown.2 with ⟨h, _⟩ | ⟨g, cap, cur, h, hg, _⟩
    · cases h
    · injection h with h
      injection h with h
      injection h with h
      omega
  have HB2 : Hid (Below w.heap.size w w2) := below_then HB.out hb HB.out.size
  have HIB := Lib.hid hib
  clear hb hown hib
  go_wp2_with fail
  refine (ram_write_ok (H.out.below HB2.out) x HX.out.1 HX.out.2 a m c HA.out _ HIB.out HAP.out).mono ?_
  rintro e w3 ⟨rfl, hh⟩
  rw [putTo_word] at hh
  have HF := Lib.hid (hh.from_below HB2.out)
  clear hh
  go_wp2_with fail
  go_ret
  exact ⟨rfl, HF.out⟩
end Go.Proofs.YtkogjjeoihnjpaaGreat
end
