/- One call of the memory's script, Read: both answer alike. -/
import Derived.Test.YtebdbbpefmgooaaRamStepR
import Derived.Test.YtebdbbpefmgooaaRamStepW
import Derived.Test.YtebdbbpefmgooaaRom2
import Derived.StillTailTactics
import Derived.BigRegion
import Derived.Deep.RegionWith
import Derived.Deep.RegionHeld3
import Derived.Deep.QuietTactic
import Derived.BigQuiet
import Derived.Deep.DeepFit
import Derived.Deep.DeepMust
import Derived.Handy
set_option linter.unusedVariables false
set_option linter.unusedSimpArgs false
namespace Go.Proofs.Ytebdbbpefmgooaa
open Go.RowKit
set_option maxRecDepth 100000
/-- bytes in a row of the call's own, in a block from B on -/
def MyB (w : World) (B : Nat) (ad : Option Addr) (n : Nat) (l : List Int) : Prop :=
  l.length = n ∧ (∀ x ∈ l, 0 ≤ x ∧ x ≤ 255) ∧ ((ad = none ∧ n = 0) ∨ ∃ g cur, ad = some ⟨g, 0, none⟩ ∧ B ≤ g ∧ w.heap[g]? = some (.cells cur 5 (0, 0)) ∧ ∀ i, i < n → cur[i]? = some (.int .u8 (l.getD i 0)))
theorem readL_len (n : Nat) (ct : Nat → Nat) (x k : Int) : (readL n ct x k).length ≤ k.toNat := by
  unfold readL
  split
  · rw [bytesAt_len]; exact Nat.le_refl _
  · simp
theorem MyB.isB {w : World} {B : Nat} {ad : Option Addr} {n : Nat} {l : List Int} (h : MyB w B ad n l) : IsB w ad n l := by
  obtain ⟨h1, h2, h3⟩ := h
  refine ⟨h1, h2, h3.imp id ?_⟩
  rintro ⟨g, cur, rfl, _, hb, hc⟩
  exact ⟨g, 0, rfl, fun i hi => by rw [blk_cell hb, Nat.zero_add]; exact hc i hi⟩
theorem MyB.below {w w' : World} {B : Nat} {ad : Option Addr} {n : Nat} {l : List Int} (h : MyB w B ad n l) (hb : Below w.heap.size w w') : MyB w' B ad n l := by
  obtain ⟨h1, h2, h3⟩ := h
  refine ⟨h1, h2, h3.imp id ?_⟩
  rintro ⟨g, cur, rfl, hg, hh, hc⟩
  exact ⟨g, cur, rfl, hg, (hb.block _ (blk_lt hh)).trans hh, hc⟩
theorem ReadA.my {w w' : World} {er : Int} {l : List Int} {e : Ending} (h : ReadA w er l e w') (hl : ∀ x ∈ l, 0 ≤ x ∧ x ≤ 255) :
    ∃ ad n cap, e = .returned (.tuple #[.slice ad n cap, .int .i64 er]) ∧ MyB w' w.heap.size ad n l ∧ Below w.heap.size w w' := by
  obtain ⟨v, he, ⟨h1, h2⟩, hb⟩ := h
  rcases h2 with ⟨rfl, h0⟩ | ⟨g, cap, cur, rfl, hg, hh, _, _, _, ht⟩
  · exact ⟨none, 0, 0, he, ⟨h0, hl, .inl ⟨rfl, rfl⟩⟩, hb⟩
  · refine ⟨some ⟨g, 0, none⟩, l.length, cap, he, ⟨rfl, hl, .inr ⟨g, cur, rfl, hg, hh, fun i hi => ?_⟩⟩, hb⟩
    have h3 : (cur.toList.take (l.length * 1))[i]? = (l.map (Value.int .u8))[i]? := by rw [ht]
    rw [List.getElem?_take_of_lt (by omega), Array.getElem?_toList] at h3
    rw [h3]
    simp [List.getD, hi]
theorem spoil_my {w : World} {B : Nat} {ad : Option Addr} {n c : Nat} {l : List Int} (h : MyB w B ad n l) (hn : n ≤ 9223372036854775807) :
    Calls Try.prog 23 #[.slice ad n c] w fun e w' => e = .returned (.tuple #[]) ∧ Below B w w' := by
  obtain ⟨h1, h2, h3⟩ := h
  rcases h3 with ⟨rfl, rfl⟩ | ⟨g, cur, rfl, hg, hh, hc⟩
  · have HB := Lib.hid (Below.refl B w)
    clear h1 h2 hn
    go_enter Try.func23, Try.ntmps23
    go_wp2
    refine wp_loop_rounds 1 ?_
    rw [rounds_succ]
    go_wp2
    go_end0
    exact ⟨rfl, HB.out⟩
  · exact (same_spoil g 0 n c hn w (fun i hi => ⟨l.getD i 0, by rw [blk_cell hh, Nat.zero_add]; exact hc i hi⟩) (fun i hi => blk_frozen hh _)).mono fun _ _ h => ⟨h.1, h.2 B hg⟩
set_option maxHeartbeats 4000000 in
theorem step_read_le {w : World} {b n : Nat} {ct : Nat → Nat} {S : Nat → Prop} (h : RamAt w b n ct S) {B wb : Nat} {rv : Value} {c : Nat → Int × Int} {m : Nat} (hr : RefRam w B wb n rv c m) (n4 : (4 : Int) ≤ n) (n256 : (n : Int) ≤ 256) (hs : SameB n (fun y => lkTo c y m) ct)
    (k x v : Int) (hk : k ≤ 200) (raw : Bool) (s t : Value) (x0 : 0 ≤ x) (x1 : x < 18446744073709551616) :
    Calls Try.prog 51 #[.pointer (some ⟨b, 0, none⟩), .pointer (some ⟨wb, 0, none⟩), .agg #[.int .i64 3, .int .i64 k, .int .u64 x, .bool raw, s, t, .int .u64 v]] w fun e w' => e = .returned (.bool true) ∧ Below w.heap.size w w' := by
  have H := Lib.hid h; have HR := Lib.hid hr; have HS := Lib.hid hs
  have HX := Lib.hid (And.intro x0 x1)
  have HP := fun W : World => Lib.hid (law_place (w := W) 3 k x v raw s t x0 x1)
  have HBD := Lib.hid (fun (X K : Int) => readL_bd (n := n) (ct := ct) (by obtain ⟨_, _, h, _⟩ := h; exact h.bd) X K)
  clear h hr hs
  go_enter Try.func51, Try.ntmps51
  go_wp2_with fail
  refine ((HP _).out).mono ?_
  rintro e w1 ⟨rfl, hb1⟩
  have p0 := placeAt_lo x raw HX.out.1
  have p1 := placeAt_hi x raw HX.out.2
  generalize placeAt x raw = y at *
  have HB1 : Hid (Below w.heap.size w w1) := by
    have hz := (Below.refl w.heap.size w).alloc (Nat.le_refl _) (.cells #[.int .i64 3, .int .i64 k, .int .u64 x, .bool raw, s, t, .int .u64 v] 91)
    exact hz.trans (hb1.mono (by simp))
  clear HP
  have hbk : w1.heap[w.heap.size]? = some (.cells #[.int .i64 3, .int .i64 k, .int .u64 x, .bool raw, s, t, .int .u64 v] 91 (0, 0)) := (hb1.block _ (by simp)).trans (blk_alloc w _)
  have q0 : w1.cell? ⟨w.heap.size, 0, none⟩ = some (.int .i64 3) := blk_cell hbk 0
  have q1 : w1.cell? ⟨w.heap.size, 1, none⟩ = some (.int .i64 k) := blk_cell hbk 1
  have HRM := Lib.hid (ram_read_any (H.out.below HB1.out) y p0 p1 k (by omega))
  go_wp2_with fail
  refine HRM.out.mono ?_
  rintro e w2 h2
  obtain ⟨ad, an, ac, rfl, hm2, hb2⟩ := h2.my (HBD.out _ _)
  have HB2 : Hid (Below w.heap.size w w2) := HB1.out.trans (hb2.mono HB1.out.size)
  have HM2 : Hid (MyB w2 w.heap.size ad an (readL n ct y k)) := by
    obtain ⟨g1, g2, g3⟩ := hm2
    refine ⟨g1, g2, g3.imp id ?_⟩
    rintro ⟨g, cur, e1, e2, e3⟩
    exact ⟨g, cur, e1, Nat.le_trans HB1.out.size e2, e3⟩
  have HRR := Lib.hid (ref_read_any (HR.out.below HB2.out) n4 n256 HS.out y p0 p1 k (by omega))
  clear hm2 hb2 h2 q0 q1 HRM H HR HS
  have HBL := Lib.hid (HBD.out y k)
  have HLL := Lib.hid (readL_len n ct y k)
  generalize readL n ct y k = L at *
  generalize readE n y k = E at *
  clear HBD
  go_wp2_with fail
  refine HRR.out.mono ?_
  rintro e w3 h3
  obtain ⟨bd, bn, bc, rfl, hm3, hb3⟩ := h3.my HBL.out
  have HM3 := Lib.hid (HM2.out.below hb3)
  have HB3 : Hid (Below w.heap.size w w3) := HB2.out.trans (hb3.mono HB2.out.size)
  have HM4 := Lib.hid hm3
  clear h3 HM2 hb3 hm3 HRR HB1 HB2
  go_wp2_with fail
  refine (same_bytes ad bd an bn ac bc L L w3 HM3.out.isB HM4.out.isB).mono ?_
  rintro e w4 ⟨rfl, rfl⟩
  have he : eqB L L = true := by simp [eqB]
  rw [he]
  clear he
  have hn9 : an ≤ 9223372036854775807 := by have h1 := HM3.out.1; have h2 := HLL.out; have h3 : k.toNat ≤ 200 := (by omega); omega
  go_wp2_with fail
  refine (spoil_my HM3.out hn9).mono ?_
  rintro e w4 ⟨rfl, hb4⟩
  have HB4 : Hid (Below w.heap.size w w4) := HB3.out.trans hb4
  go_wp2_with fail
  go_ret
  exact ⟨by first | rfl | simp, HB4.out⟩
set_option maxHeartbeats 4000000 in
theorem step_read_gt {w : World} {b n : Nat} {ct : Nat → Nat} {S : Nat → Prop} (h : RamAt w b n ct S) {B wb : Nat} {rv : Value} {c : Nat → Int × Int} {m : Nat} (hr : RefRam w B wb n rv c m) (n4 : (4 : Int) ≤ n) (n256 : (n : Int) ≤ 256) (hs : SameB n (fun y => lkTo c y m) ct)
    (k x v : Int) (hk : 200 < k) (raw : Bool) (s t : Value) (x0 : 0 ≤ x) (x1 : x < 18446744073709551616) :
    Calls Try.prog 51 #[.pointer (some ⟨b, 0, none⟩), .pointer (some ⟨wb, 0, none⟩), .agg #[.int .i64 3, .int .i64 k, .int .u64 x, .bool raw, s, t, .int .u64 v]] w fun e w' => e = .returned (.bool true) ∧ Below w.heap.size w w' := by
  have H := Lib.hid h; have HR := Lib.hid hr; have HS := Lib.hid hs
  have HX := Lib.hid (And.intro x0 x1)
  have HP := fun W : World => Lib.hid (law_place (w := W) 3 k x v raw s t x0 x1)
  have HBD := Lib.hid (fun (X K : Int) => readL_bd (n := n) (ct := ct) (by obtain ⟨_, _, h, _⟩ := h; exact h.bd) X K)
  clear h hr hs
  go_enter Try.func51, Try.ntmps51
  go_wp2_with fail
  refine ((HP _).out).mono ?_
  rintro e w1 ⟨rfl, hb1⟩
  have p0 := placeAt_lo x raw HX.out.1
  have p1 := placeAt_hi x raw HX.out.2
  generalize placeAt x raw = y at *
  have HB1 : Hid (Below w.heap.size w w1) := by
    have hz := (Below.refl w.heap.size w).alloc (Nat.le_refl _) (.cells #[.int .i64 3, .int .i64 k, .int .u64 x, .bool raw, s, t, .int .u64 v] 91)
    exact hz.trans (hb1.mono (by simp))
  clear HP
  have hbk : w1.heap[w.heap.size]? = some (.cells #[.int .i64 3, .int .i64 k, .int .u64 x, .bool raw, s, t, .int .u64 v] 91 (0, 0)) := (hb1.block _ (by simp)).trans (blk_alloc w _)
  have q0 : w1.cell? ⟨w.heap.size, 0, none⟩ = some (.int .i64 3) := blk_cell hbk 0
  have q1 : w1.cell? ⟨w.heap.size, 1, none⟩ = some (.int .i64 k) := blk_cell hbk 1
  have HRM := Lib.hid (ram_read_any (H.out.below HB1.out) y p0 p1 200 (by omega))
  go_wp2_with fail
  refine HRM.out.mono ?_
  rintro e w2 h2
  obtain ⟨ad, an, ac, rfl, hm2, hb2⟩ := h2.my (HBD.out _ _)
  have HB2 : Hid (Below w.heap.size w w2) := HB1.out.trans (hb2.mono HB1.out.size)
  have HM2 : Hid (MyB w2 w.heap.size ad an (readL n ct y 200)) := by
    obtain ⟨g1, g2, g3⟩ := hm2
    refine ⟨g1, g2, g3.imp id ?_⟩
    rintro ⟨g, cur, e1, e2, e3⟩
    exact ⟨g, cur, e1, Nat.le_trans HB1.out.size e2, e3⟩
  have HRR := Lib.hid (ref_read_any (HR.out.below HB2.out) n4 n256 HS.out y p0 p1 200 (by omega))
  clear hm2 hb2 h2 q0 q1 HRM H HR HS
  have HBL := Lib.hid (HBD.out y 200)
  have HLL := Lib.hid (readL_len n ct y 200)
  generalize readL n ct y 200 = L at *
  generalize readE n y 200 = E at *
  clear HBD
  go_wp2_with fail
  refine HRR.out.mono ?_
  rintro e w3 h3
  obtain ⟨bd, bn, bc, rfl, hm3, hb3⟩ := h3.my HBL.out
  have HM3 := Lib.hid (HM2.out.below hb3)
  have HB3 : Hid (Below w.heap.size w w3) := HB2.out.trans (hb3.mono HB2.out.size)
  have HM4 := Lib.hid hm3
  clear h3 HM2 hb3 hm3 HRR HB1 HB2
  go_wp2_with fail
  refine (same_bytes ad bd an bn ac bc L L w3 HM3.out.isB HM4.out.isB).mono ?_
  rintro e w4 ⟨rfl, rfl⟩
  have he : eqB L L = true := by simp [eqB]
  rw [he]
  clear he
  have hn9 : an ≤ 9223372036854775807 := by have h1 := HM3.out.1; have h2 := HLL.out; have h3 : (200 : Int).toNat ≤ 200 := (by decide); omega
  go_wp2_with fail
  refine (spoil_my HM3.out hn9).mono ?_
  rintro e w4 ⟨rfl, hb4⟩
  have HB4 : Hid (Below w.heap.size w w4) := HB3.out.trans hb4
  go_wp2_with fail
  go_ret
  exact ⟨by first | rfl | simp, HB4.out⟩
theorem step_read {w : World} {b n : Nat} {ct : Nat → Nat} {S : Nat → Prop} (h : RamAt w b n ct S) {B wb : Nat} {rv : Value} {c : Nat → Int × Int} {m : Nat} (hr : RefRam w B wb n rv c m) (n4 : (4 : Int) ≤ n) (n256 : (n : Int) ≤ 256) (hs : SameB n (fun y => lkTo c y m) ct)
    (k x v : Int) (raw : Bool) (s t : Value) (x0 : 0 ≤ x) (x1 : x < 18446744073709551616) :
    Calls Try.prog 51 #[.pointer (some ⟨b, 0, none⟩), .pointer (some ⟨wb, 0, none⟩), .agg #[.int .i64 3, .int .i64 k, .int .u64 x, .bool raw, s, t, .int .u64 v]] w fun e w' => e = .returned (.bool true) ∧ Below w.heap.size w w' := by
  by_cases hk : k ≤ 200
  · exact step_read_le h hr n4 n256 hs k x v hk raw s t x0 x1
  · exact step_read_gt h hr n4 n256 hs k x v (by omega) raw s t x0 x1
end Go.Proofs.Ytebdbbpefmgooaa
