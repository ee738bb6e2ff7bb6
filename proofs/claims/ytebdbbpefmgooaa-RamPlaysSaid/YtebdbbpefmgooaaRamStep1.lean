/- One call of the memory's script, Some: both answer alike. -/
import Derived.Test.YtebdbbpefmgooaaRamStep0
import Derived.StillTailTactics
import Derived.BigRegion
import Derived.Deep.RegionWith
import Derived.Deep.RegionHeld3
import Derived.Deep.QuietTactic
import Derived.BigQuiet
import Derived.Deep.DeepFit
import Derived.Deep.DeepMust
import Derived.Handy
set_option linter.unusedVariables false
set_option linter.unusedSimpArgs false
namespace Go.Proofs.Ytebdbbpefmgooaa
open Go.RowKit
set_option maxRecDepth 100000
set_option maxHeartbeats 8000000 in
theorem step_some {w : World} {B b n wb : Nat} {ct : Nat → Nat} {S : Nat → Prop} {rv : Value} {c : Nat → Int × Int} {m : Nat} (h : Both w B b n wb ct S rv c m) (n4 : (4 : Int) ≤ n) (n256 : (n : Int) ≤ 256) (hmx : (m : Int) + 200 ≤ 100000000)
    (k x v : Int) (raw : Bool) (a a2 : Option Addr) (l ca l2 ca2 : Nat) (x0 : 0 ≤ x) (x1 : x < 18446744073709551616) (V : Nat → Int) (hV : ∀ i, 0 ≤ V i ∧ V i ≤ 255) (hl : (l : Int) ≤ 200) (hn : a = none → ca = 0) (hle : l ≤ ca) (hr : IsRow w a l (fun i => .int .u8 (V i))) (hlo : 0 < l → ∀ b o s, a = some ⟨b, o, s⟩ → b < B)
    (Z : Nat → Bool) (hl2 : (l2 : Int) ≤ 140737488351232) (hn2 : a2 = none → ca2 = 0) (hle2 : l2 ≤ ca2) (hr2 : IsRow w a2 l2 (fun i => .bool (Z i))) (hlo2 : 0 < l2 → ∀ b o s, a2 = some ⟨b, o, s⟩ → b < B) :
    Calls Try.prog 51 #[.pointer (some ⟨b, 0, none⟩), .pointer (some ⟨wb, 0, none⟩), .agg #[.int .i64 1, .int .i64 k, .int .u64 x, .bool raw, .slice a l ca, .slice a2 l2 ca2, .int .u64 v]] w fun e w' => e = .returned (.bool true) ∧ BothTo w w' B b n wb S rv (m + 200) := by
  have H := Lib.hid h
  have HX := Lib.hid (And.intro x0 x1)
  have HMX := Lib.hid hmx
  have HVV := Lib.hid hV
  have HR := Lib.hid hr; have HR2 := Lib.hid hr2
  have HLO := Lib.hid hlo; have HLO2 := Lib.hid hlo2
  have HN := Lib.hid (And.intro hn hle); have HN2 := Lib.hid (And.intro hn2 hle2)
  have HL := Lib.hid hl; have HL2 := Lib.hid hl2
  have HP := fun W : World => Lib.hid (law_place (w := W) 1 k x v raw (.slice a l ca) (.slice a2 l2 ca2) x0 x1)
  clear h hmx hV hr hlo hn hle hl hr2 hlo2 hn2 hle2 hl2
  go_enter Try.func51, Try.ntmps51
  go_wp2_with fail
  refine ((HP _).out).mono ?_
  rintro e w1 ⟨rfl, hb1⟩
  have p0 := placeAt_lo x raw HX.out.1
  have p1 := placeAt_hi x raw HX.out.2
  generalize placeAt x raw = y at *
  have HB1 : Hid (Below w.heap.size w w1) := by
    have hz := (Below.refl w.heap.size w).alloc (Nat.le_refl _) (.cells #[.int .i64 1, .int .i64 k, .int .u64 x, .bool raw, .slice a l ca, .slice a2 l2 ca2, .int .u64 v] 91)
    exact hz.trans (hb1.mono (by simp))
  clear HP
  have hbk : w1.heap[w.heap.size]? = some (.cells #[.int .i64 1, .int .i64 k, .int .u64 x, .bool raw, .slice a l ca, .slice a2 l2 ca2, .int .u64 v] 91 (0, 0)) := (hb1.block _ (by simp)).trans (blk_alloc w _)
  have q0 : w1.cell? ⟨w.heap.size, 0, none⟩ = some (.int .i64 1) := blk_cell hbk 0
  have H0 := Lib.hid H.out.B_lt
  have HR1 := Lib.hid (isRow_below HR.out (HB1.out.mono H0.out) HLO.out)
  have HBK := Lib.hid hbk
  clear hb1 hbk
  go_wp2_with fail
  refine wp_region_held_drew (S := fun wq => wq.heap[w.heap.size]? = some (.cells #[.int .i64 1, .int .i64 k, .int .u64 x, .bool raw, .slice a l ca, .slice a2 l2 ca2, .int .u64 v] 91 (0, 0))) (by kernel_rfl) HBK.out (fun hH => ?_)
  refine wpAnyH_take (i := 0) (oi := ⟨some 29, _, _, _, _, _⟩) (v := ?_) rfl (by kernel_rfl) (by kernel_rfl) (by kernel_rfl) (fun _ _ _ h => h) (Or.inl ⟨by kernel_rfl, ?_⟩) hH ?_
  rotate_left 1
  · intro wq hq; have c4 := blk_cell hq 4; have c5 := blk_cell hq 5; simp only [List.getElem?_toArray, List.getElem?_cons_succ, List.getElem?_cons_zero] at c4 c5; first | (go_simp; done) | (go_simp; with_reducible rfl)
  simp only [Act.put, List.setIfInBounds_toArray, List.set_cons_zero, List.set_cons_succ]
  refine wpAnyH_take (i := 1) (oi := ⟨some 30, _, _, _, _, _⟩) (v := ?_) rfl (by kernel_rfl) (by kernel_rfl) (by kernel_rfl) (fun _ _ _ h => h) (Or.inl ⟨by kernel_rfl, ?_⟩) hH ?_
  rotate_left 1
  · intro wq hq; have c4 := blk_cell hq 4; have c5 := blk_cell hq 5; simp only [List.getElem?_toArray, List.getElem?_cons_succ, List.getElem?_cons_zero] at c4 c5; first | (go_simp; done) | (go_simp; with_reducible rfl)
  simp only [Act.put, List.setIfInBounds_toArray, List.set_cons_zero, List.set_cons_succ]
  refine wpAnyH_take (i := 3) (oi := ⟨some 32, _, _, _, _, _⟩) (v := ?_) rfl (by kernel_rfl) (by kernel_rfl) (by kernel_rfl) (fun _ _ _ h => h) (Or.inl ⟨by kernel_rfl, ?_⟩) hH ?_
  rotate_left 1
  · intro wq hq; have c4 := blk_cell hq 4; have c5 := blk_cell hq 5; simp only [List.getElem?_toArray, List.getElem?_cons_succ, List.getElem?_cons_zero] at c4 c5; first | (go_simp; done) | (go_simp; with_reducible rfl)
  simp only [Act.put, List.setIfInBounds_toArray, List.set_cons_zero, List.set_cons_succ]
  refine wpAnyH_take (i := 4) (oi := ⟨some 33, _, _, _, _, _⟩) (v := ?_) rfl (by kernel_rfl) (by kernel_rfl) (by kernel_rfl) (fun _ _ _ h => h) (Or.inl ⟨by kernel_rfl, ?_⟩) hH ?_
  rotate_left 1
  · intro wq hq; have c4 := blk_cell hq 4; have c5 := blk_cell hq 5; simp only [List.getElem?_toArray, List.getElem?_cons_succ, List.getElem?_cons_zero] at c4 c5; first | (go_simp; done) | (go_simp; with_reducible rfl)
  simp only [Act.put, List.setIfInBounds_toArray, List.set_cons_zero, List.set_cons_succ]
  refine wpAnyH_ready (rs := [2]) (by kernel_rfl) (by simp) (AllReadyH.cons (o := ⟨some 31, _, _, _, _, _⟩) rfl (fun K hK => ?_) AllReadyH.nil)
  go_simp
  refine (own_u8 a l ca V 71 w1.drew HN.out.1 HN.out.2 (by have := HL.out; omega) (show IsRow w1.drew a l (fun i => .int .u8 (V i)) from HR1.out)).mono ?_
  rintro e w2 ⟨rfl, hr20, hb2⟩
  have hr2 : w2.rowIs w1.heap.size 5 (l + 3) (fun i => Value.int .u8 (if i < l then V i else 71)) := hr20
  clear hr20
  go_wp2_with fail
  refine hK.out _ _ ?_ (fun hH => ?_)
  · exact (hb2.block _ (blk_lt HBK.out)).trans hH
  clear hK K
  try simp only [Act.put, List.setIfInBounds_toArray, List.set_cons_zero, List.set_cons_succ]
  refine wpAnyH_ready (rs := [5]) (by kernel_rfl) (by simp) (AllReadyH.cons (o := ⟨some 34, _, _, _, _, _⟩) rfl (fun K hK => ?_) AllReadyH.nil)
  go_simp
  have HB2x : Hid (Below B w w2) := (HB1.out.mono H0.out).trans ((Below.refl B w1).drew.trans (hb2.mono (Nat.le_trans H0.out HB1.out.size)))
  refine (own_bool a2 l2 ca2 Z true w2 HN2.out.1 HN2.out.2 (by have := HL2.out; omega) (isRow_below HR2.out HB2x.out HLO2.out)).mono ?_
  rintro e w3 ⟨rfl, hr3, hb3⟩
  go_wp2_with fail
  refine hK.out _ _ ?_ (fun hH => ?_)
  · exact (hb3.block _ (blk_lt hH)).trans hH
  clear HB2x
  clear hK K
  try simp only [Act.put, List.setIfInBounds_toArray, List.set_cons_zero, List.set_cons_succ]
  refine wpAnyH_take (i := 6) (oi := ⟨some 8, _, _, _, _, _⟩) (v := ?_) rfl (by kernel_rfl) (by kernel_rfl) (by kernel_rfl) (fun _ _ _ h => h) (Or.inl ⟨by kernel_rfl, ?_⟩) hH ?_
  rotate_left 1
  · intro wq hq; have c4 := blk_cell hq 4; have c5 := blk_cell hq 5; simp only [List.getElem?_toArray, List.getElem?_cons_succ, List.getElem?_cons_zero] at c4 c5; first | (go_simp; done) | (go_simp; with_reducible rfl)
  simp only [Act.put, List.setIfInBounds_toArray, List.set_cons_zero, List.set_cons_succ]
  refine wpAnyH_take (i := 7) (oi := ⟨some 9, _, _, _, _, _⟩) (v := ?_) rfl (by kernel_rfl) (by kernel_rfl) (by kernel_rfl) (fun _ _ _ h => h) (Or.inl ⟨by kernel_rfl, ?_⟩) hH ?_
  rotate_left 1
  · intro wq hq; have c4 := blk_cell hq 4; have c5 := blk_cell hq 5; simp only [List.getElem?_toArray, List.getElem?_cons_succ, List.getElem?_cons_zero] at c4 c5; first | (go_simp; done) | (go_simp; with_reducible rfl)
  simp only [Act.put, List.setIfInBounds_toArray, List.set_cons_zero, List.set_cons_succ]
  refine wpAnyH_done (by kernel_rfl) ?_ _

  have HB2 : Hid (Below w.heap.size w w2) := HB1.out.trans (((Below.refl w1.heap.size w1).drew.trans hb2).mono HB1.out.size)
  have HBF : Hid (Below w.heap.size w w3) := HB2.out.trans (hb3.mono HB2.out.size)
  have HBK2 := Lib.hid hH
  have HG : Hid (w.heap.size < w1.heap.size ∧ w1.heap.size < w2.heap.size) := ⟨blk_lt HBK.out, hr2.lt⟩
  have HRI := Lib.hid (hr2.of_block (hb3.block _ hr2.lt))
  have HRZ := Lib.hid hr3
  have HRA := Lib.hid (isRow_below HR.out (HBF.out.mono H0.out) HLO.out)
  have HRB := Lib.hid (isRow_below HR2.out (HBF.out.mono H0.out) HLO2.out)
  have H2 := Lib.hid (H.out.below HBF.out)
  have HGR : Hid (w1.heap.size < w3.heap.size ∧ w2.heap.size < w3.heap.size) := ⟨HRI.out.lt, HRZ.out.lt⟩
  have HNO : ∀ q, w.heap.size ≤ q → Hid (¬ S q ∧ q ≠ b ∧ q ≠ wb ∧ rv.ownBlock ≠ some q) := fun q hq => by
    have h := H.out
    refine ⟨fun e => ?_, ?_, ?_, fun e => ?_⟩
    · have := h.ram.lt e; omega
    · have := h.ram.self.2; omega
    · have := h.wb_lt; omega
    · have := (h.sv _ e).2.2.2; omega
  generalize hgi : w1.heap.size = gi at *
  generalize hgz : w2.heap.size = gz at *
  have N0 := HNO w.heap.size (Nat.le_refl _)
  have N1 := HNO gi (Nat.le_of_lt HG.out.1)
  have N2 := HNO gz (Nat.le_of_lt (Nat.lt_trans HG.out.1 HG.out.2))
  clear hr2 hr3 hb2 hb3 q0 HNO HR1 HBK hgi hgz hH
  have HIB : Hid (IsB w3.drew (some ⟨gi, 0, none⟩) l (listOf V l)) := ⟨listOf_len _ _, fun z hz => by
    simp only [listOf, List.mem_map] at hz
    obtain ⟨i, _, rfl⟩ := hz
    exact HVV.out i, .inr ⟨gi, 0, rfl, fun i hi => by rw [Nat.zero_add, listOf_getD _ _ _ hi]; exact (HRI.out.cell (i := i) (by omega)).trans (by rw [if_pos hi])⟩⟩
  have HIZ : Hid (IsRow w3.drew (some ⟨gz, 0, none⟩) l2 (fun i => .bool (Z i))) := fun hn => ⟨gz, 0, rfl, HGR.out.2, fun i hi => by rw [Nat.zero_add]; exact (HRZ.out.cell (i := i) (by omega)).trans (by rw [if_pos hi])⟩
  go_wp2_with fail
  refine wp_region_held_drew (S := fun wq => wq.heap[w.heap.size]? = some (.cells #[.int .i64 1, .int .i64 k, .int .u64 x, .bool raw, .slice a l ca, .slice a2 l2 ca2, .int .u64 v] 91 (0, 0))) (by kernel_rfl) HBK2.out (fun hH => ?_)
  refine wpAnyH_take (i := 0) (oi := ⟨some 35, _, _, _, _, _⟩) (v := ?_) rfl (by kernel_rfl) (by kernel_rfl) (by kernel_rfl) (fun _ _ _ h => h) (Or.inl ⟨by kernel_rfl, ?_⟩) hH ?_
  rotate_left 1
  · intro wq hq; have c4 := blk_cell hq 4; have c5 := blk_cell hq 5; simp only [List.getElem?_toArray, List.getElem?_cons_succ, List.getElem?_cons_zero] at c4 c5; first | (go_simp; done) | (go_simp; with_reducible rfl)
  simp only [Act.put, List.setIfInBounds_toArray, List.set_cons_zero, List.set_cons_succ]
  refine wpAnyH_take (i := 1) (oi := ⟨some 36, _, _, _, _, _⟩) (v := ?_) rfl (by kernel_rfl) (by kernel_rfl) (by kernel_rfl) (fun _ _ _ h => h) (Or.inl ⟨by kernel_rfl, ?_⟩) hH ?_
  rotate_left 1
  · intro wq hq; have c4 := blk_cell hq 4; have c5 := blk_cell hq 5; simp only [List.getElem?_toArray, List.getElem?_cons_succ, List.getElem?_cons_zero] at c4 c5; first | (go_simp; done) | (go_simp; with_reducible rfl)
  simp only [Act.put, List.setIfInBounds_toArray, List.set_cons_zero, List.set_cons_succ]
  refine wpAnyH_take (i := 2) (oi := ⟨some 37, _, _, _, _, _⟩) (v := ?_) rfl (by kernel_rfl) (by kernel_rfl) (by kernel_rfl) (fun _ _ _ h => h) (Or.inl ⟨by kernel_rfl, ?_⟩) hH ?_
  rotate_left 1
  · intro wq hq; have c4 := blk_cell hq 4; have c5 := blk_cell hq 5; simp only [List.getElem?_toArray, List.getElem?_cons_succ, List.getElem?_cons_zero] at c4 c5; first | (go_simp; done) | (go_simp; with_reducible rfl)
  simp only [Act.put, List.setIfInBounds_toArray, List.set_cons_zero, List.set_cons_succ]
  refine wpAnyH_take (i := 3) (oi := ⟨some 38, _, _, _, _, _⟩) (v := ?_) rfl (by kernel_rfl) (by kernel_rfl) (by kernel_rfl) (fun _ _ _ h => h) (Or.inl ⟨by kernel_rfl, ?_⟩) hH ?_
  rotate_left 1
  · intro wq hq; have c4 := blk_cell hq 4; have c5 := blk_cell hq 5; simp only [List.getElem?_toArray, List.getElem?_cons_succ, List.getElem?_cons_zero] at c4 c5; first | (go_simp; done) | (go_simp; with_reducible rfl)
  simp only [Act.put, List.setIfInBounds_toArray, List.set_cons_zero, List.set_cons_succ]
  refine wpAnyH_take (i := 5) (oi := ⟨some 40, _, _, _, _, _⟩) (v := ?_) rfl (by kernel_rfl) (by kernel_rfl) (by kernel_rfl) (fun _ _ _ h => h) (Or.inl ⟨by kernel_rfl, ?_⟩) hH ?_
  rotate_left 1
  · intro wq hq; have c4 := blk_cell hq 4; have c5 := blk_cell hq 5; simp only [List.getElem?_toArray, List.getElem?_cons_succ, List.getElem?_cons_zero] at c4 c5; first | (go_simp; done) | (go_simp; with_reducible rfl)
  simp only [Act.put, List.setIfInBounds_toArray, List.set_cons_zero, List.set_cons_succ]
  refine wpAnyH_take (i := 6) (oi := ⟨some 41, _, _, _, _, _⟩) (v := ?_) rfl (by kernel_rfl) (by kernel_rfl) (by kernel_rfl) (fun _ _ _ h => h) (Or.inl ⟨by kernel_rfl, ?_⟩) hH ?_
  rotate_left 1
  · intro wq hq; have c4 := blk_cell hq 4; have c5 := blk_cell hq 5; simp only [List.getElem?_toArray, List.getElem?_cons_succ, List.getElem?_cons_zero] at c4 c5; first | (go_simp; done) | (go_simp; with_reducible rfl)
  simp only [Act.put, List.setIfInBounds_toArray, List.set_cons_zero, List.set_cons_succ]
  refine wpAnyH_take (i := 7) (oi := ⟨some 42, _, _, _, _, _⟩) (v := ?_) rfl (by kernel_rfl) (by kernel_rfl) (by kernel_rfl) (fun _ _ _ h => h) (Or.inl ⟨by kernel_rfl, ?_⟩) hH ?_
  rotate_left 1
  · intro wq hq; have c4 := blk_cell hq 4; have c5 := blk_cell hq 5; simp only [List.getElem?_toArray, List.getElem?_cons_succ, List.getElem?_cons_zero] at c4 c5; first | (go_simp; done) | (go_simp; with_reducible rfl)
  simp only [Act.put, List.setIfInBounds_toArray, List.set_cons_zero, List.set_cons_succ]
  refine wpAnyH_take (i := 8) (oi := ⟨some 43, _, _, _, _, _⟩) (v := ?_) rfl (by kernel_rfl) (by kernel_rfl) (by kernel_rfl) (fun _ _ _ h => h) (Or.inl ⟨by kernel_rfl, ?_⟩) hH ?_
  rotate_left 1
  · intro wq hq; have c4 := blk_cell hq 4; have c5 := blk_cell hq 5; simp only [List.getElem?_toArray, List.getElem?_cons_succ, List.getElem?_cons_zero] at c4 c5; first | (go_simp; done) | (go_simp; with_reducible rfl)
  simp only [Act.put, List.setIfInBounds_toArray, List.set_cons_zero, List.set_cons_succ]
  refine wpAnyH_take (i := 9) (oi := ⟨some 44, _, _, _, _, _⟩) (v := ?_) rfl (by kernel_rfl) (by kernel_rfl) (by kernel_rfl) (fun _ _ _ h => h) (Or.inl ⟨by kernel_rfl, ?_⟩) hH ?_
  rotate_left 1
  · intro wq hq; have c4 := blk_cell hq 4; have c5 := blk_cell hq 5; simp only [List.getElem?_toArray, List.getElem?_cons_succ, List.getElem?_cons_zero] at c4 c5; first | (go_simp; done) | (go_simp; with_reducible rfl)
  simp only [Act.put, List.setIfInBounds_toArray, List.set_cons_zero, List.set_cons_succ]
  refine wpAnyH_take (i := 10) (oi := ⟨some 45, _, _, _, _, _⟩) (v := ?_) rfl (by kernel_rfl) (by kernel_rfl) (by kernel_rfl) (fun _ _ _ h => h) (Or.inl ⟨by kernel_rfl, ?_⟩) hH ?_
  rotate_left 1
  · intro wq hq; have c4 := blk_cell hq 4; have c5 := blk_cell hq 5; simp only [List.getElem?_toArray, List.getElem?_cons_succ, List.getElem?_cons_zero] at c4 c5; first | (go_simp; done) | (go_simp; with_reducible rfl)
  simp only [Act.put, List.setIfInBounds_toArray, List.set_cons_zero, List.set_cons_succ]
  refine wpAnyH_ready (rs := [4]) (by kernel_rfl) (by simp) (AllReadyH.cons (o := ⟨some 39, _, _, _, _, _⟩) rfl (fun K hK => ?_) AllReadyH.nil)
  go_simp
  have AP1 : Apart S (some ⟨gi, 0, none⟩) := fun b o s e hS => by cases e; exact N1.out.1 hS
  have AP2 : Apart S (some ⟨gz, 0, none⟩) := fun b o s e hS => by cases e; exact N2.out.1 hS
  refine (ram_some_any (w := w3.drew) H2.out.ram.drew y p0 p1 (some ⟨gi, 0, none⟩) (some ⟨gz, 0, none⟩) l (l + 3) l2 (l2 + 3) HL.out V HIB.out AP1 Z HIZ.out AP2 (by have := HL2.out; omega)).mono ?_
  rintro e w4 ⟨rfl, h4⟩
  have HS4 : Hid (Turned S w3.drew w4) := by obtain ⟨_, _, r, _⟩ := h4; exact r
  go_wp2_with fail
  refine hK.out _ _ ?_ (fun hH => ?_)
  · exact (HS4.out.block _ (blk_lt hH) N0.out.1).trans hH
  have HH4 := Lib.hid h4
  clear h4 AP1 AP2
  clear hK K
  try simp only [Act.put, List.setIfInBounds_toArray, List.set_cons_zero, List.set_cons_succ]
  refine wpAnyH_ready (rs := [11]) (by kernel_rfl) (by simp) (AllReadyH.cons (o := ⟨some 46, _, _, _, _, _⟩) rfl (fun K hK => ?_) AllReadyH.nil)
  go_simp
  have HQ4 : Hid (RefRam w4 B wb n rv c m) := (H2.out.ref.below (Below.refl _ _).drew).turned HS4.out H2.out.sw (fun g hg => (H2.out.sv g hg).1)
  have HBW := Lib.hid (Nat.le_trans H2.out.B_lt HS4.out.size)
  have HRA4 := Lib.hid (isRow_turned0 (show IsRow w3.drew a l (fun i => .int .u8 (V i)) from HRA.out) HS4.out (fun h0 => Apart.of_lt (HLO.out h0) H2.out.lo.2.2))
  have HRB4 := Lib.hid (isRow_turned0 (show IsRow w3.drew a2 l2 (fun i => .bool (Z i)) from HRB.out) HS4.out (fun h0 => Apart.of_lt (HLO2.out h0) H2.out.lo.2.2))
  have HRI4 : Hid (w4.rowIs gi 5 (l + 3) (fun i => Value.int .u8 (if i < l then V i else 71))) := (HRI.out.drew).of_block (HS4.out.block _ HGR.out.1 N1.out.1)
  have HRZ4 : Hid (w4.rowIs gz 4 (l2 + 3) (fun i => Value.bool (if i < l2 then Z i else true))) := (HRZ.out.drew).of_block (HS4.out.block _ HGR.out.2 N2.out.1)
  have HGE : Hid (∀ g, (g = wb ∨ rv.ownBlock = some g) → B ≤ g) := by
    rintro g (rfl | e)
    · exact H2.out.lo.2.1
    · obtain ⟨_, k⟩ := H2.out.ref.own
      rcases k with ⟨rfl, _⟩ | ⟨g', cap, cur, rfl, hg, _⟩
      · cases e
      · cases e; exact hg
  have AP2 : 0 < l → Apart (fun g => g = wb ∨ rv.ownBlock = some g) a := fun h0 => Apart.of_lt (HLO.out h0) HGE.out
  have AP3 : 0 < l2 → Apart (fun g => g = wb ∨ rv.ownBlock = some g) a2 := fun h0 => Apart.of_lt (HLO2.out h0) HGE.out
  refine (ref_some_st (w := w4) HQ4.out n4 n256 y p0 p1 a a2 l ca l2 ca2 HL.out V HRA4.out HVV.out AP2 HMX.out Z HRB4.out AP3 (by have := HL2.out; omega) HBW.out (fun e => (H2.out.sv wb e).2.2.1 rfl)).mono ?_
  rintro e w5 ⟨rfl, h5⟩
  have HS5 : Hid (Turned (fun g => g = wb ∨ rv.ownBlock = some g) w4 w5) := by obtain ⟨_, _, _, _, _, _, r, _⟩ := h5; exact r
  have HRA5 := Lib.hid (isRow_turned0 (HRA4.out) HS5.out AP2)
  have HRB5 := Lib.hid (isRow_turned0 (HRB4.out) HS5.out AP3)
  have HRI5' : Hid (w5.rowIs gi 5 (l + 3) (fun i => Value.int .u8 (if i < l then V i else 71))) := HRI4.out.of_block (HS5.out.block _ HRI4.out.lt (by rintro (e | e); exact N1.out.2.2.1 e; exact N1.out.2.2.2 e))
  have HRZ5 : Hid (w5.rowIs gz 4 (l2 + 3) (fun i => Value.bool (if i < l2 then Z i else true))) := HRZ4.out.of_block (HS5.out.block _ HRZ4.out.lt (by rintro (e | e); exact N2.out.2.2.1 e; exact N2.out.2.2.2 e))
  have HF : Hid (BothIn w3.drew w5 B b n wb S rv (m + 200) (fun _ => False)) := Both.turnIn (H2.out.below (Below.refl _ _).drew) HH4.out h5 (H2.out.same.someC n256 y V (fun i _ => (HVV.out i).1) _)
  go_wp2_with fail
  refine hK.out _ _ ?_ (fun hH => ?_)
  · exact (HS5.out.block _ (blk_lt hH) (by rintro (e | e); exact N0.out.2.2.1 e; exact N0.out.2.2.2 e)).trans hH
  clear h5 AP2 AP3 HH4
  clear hK K
  try simp only [Act.put, List.setIfInBounds_toArray, List.set_cons_zero, List.set_cons_succ]
  refine wpAnyH_take (i := 12) (oi := ⟨some 47, _, _, _, _, _⟩) (v := ?_) rfl (by kernel_rfl) (by kernel_rfl) (by kernel_rfl) (fun _ _ _ h => h) (Or.inl ⟨by kernel_rfl, ?_⟩) hH ?_
  rotate_left 1
  · intro wq hq; have c4 := blk_cell hq 4; have c5 := blk_cell hq 5; simp only [List.getElem?_toArray, List.getElem?_cons_succ, List.getElem?_cons_zero] at c4 c5; first | (go_simp; done) | (go_simp; with_reducible rfl)
  simp only [Act.put, List.setIfInBounds_toArray, List.set_cons_zero, List.set_cons_succ]
  refine wpAnyH_take (i := 13) (oi := ⟨some 48, _, _, _, _, _⟩) (v := ?_) rfl (by kernel_rfl) (by kernel_rfl) (by kernel_rfl) (fun _ _ _ h => h) (Or.inl ⟨by kernel_rfl, ?_⟩) hH ?_
  rotate_left 1
  · intro wq hq; have c4 := blk_cell hq 4; have c5 := blk_cell hq 5; simp only [List.getElem?_toArray, List.getElem?_cons_succ, List.getElem?_cons_zero] at c4 c5; first | (go_simp; done) | (go_simp; with_reducible rfl)
  simp only [Act.put, List.setIfInBounds_toArray, List.set_cons_zero, List.set_cons_succ]
  refine wpAnyH_take (i := 14) (oi := ⟨some 49, _, _, _, _, _⟩) (v := ?_) rfl (by kernel_rfl) (by kernel_rfl) (by kernel_rfl) (fun _ _ _ h => h) (Or.inl ⟨by kernel_rfl, ?_⟩) hH ?_
  rotate_left 1
  · intro wq hq; have c4 := blk_cell hq 4; have c5 := blk_cell hq 5; simp only [List.getElem?_toArray, List.getElem?_cons_succ, List.getElem?_cons_zero] at c4 c5; first | (go_simp; done) | (go_simp; with_reducible rfl)
  simp only [Act.put, List.setIfInBounds_toArray, List.set_cons_zero, List.set_cons_succ]
  refine wpAnyH_take (i := 15) (oi := ⟨some 50, _, _, _, _, _⟩) (v := ?_) rfl (by kernel_rfl) (by kernel_rfl) (by kernel_rfl) (fun _ _ _ h => h) (Or.inl ⟨by kernel_rfl, ?_⟩) hH ?_
  rotate_left 1
  · intro wq hq; have c4 := blk_cell hq 4; have c5 := blk_cell hq 5; simp only [List.getElem?_toArray, List.getElem?_cons_succ, List.getElem?_cons_zero] at c4 c5; first | (go_simp; done) | (go_simp; with_reducible rfl)
  simp only [Act.put, List.setIfInBounds_toArray, List.set_cons_zero, List.set_cons_succ]
  refine wpAnyH_take (i := 16) (oi := ⟨some 51, _, _, _, _, _⟩) (v := ?_) rfl (by kernel_rfl) (by kernel_rfl) (by kernel_rfl) (fun _ _ _ h => h) (Or.inl ⟨by kernel_rfl, ?_⟩) hH ?_
  rotate_left 1
  · intro wq hq; have c4 := blk_cell hq 4; have c5 := blk_cell hq 5; simp only [List.getElem?_toArray, List.getElem?_cons_succ, List.getElem?_cons_zero] at c4 c5; first | (go_simp; done) | (go_simp; with_reducible rfl)
  simp only [Act.put, List.setIfInBounds_toArray, List.set_cons_zero, List.set_cons_succ]
  refine wpAnyH_ready (rs := [17]) (by kernel_rfl) (by simp) (AllReadyH.cons (o := ⟨some 52, _, _, _, _, _⟩) rfl (fun K hK => ?_) AllReadyH.nil)
  go_simp
  refine (kept_u8 a l ca gi V 71 w5 (by have := HL.out; omega) HRI5'.out HRA5.out).mono ?_
  rintro e w6 ⟨rfl, kk, rfl⟩
  go_wp2_with fail
  refine hK.out _ _ ?_ (fun hH => ?_)
  · exact hH
  clear hK K
  try simp only [Act.put, List.setIfInBounds_toArray, List.set_cons_zero, List.set_cons_succ]
  refine wpAnyH_take (i := 18) (oi := ⟨some 53, _, _, _, _, _⟩) (v := ?_) rfl (by kernel_rfl) (by kernel_rfl) (by kernel_rfl) (fun _ _ _ h => h) (Or.inl ⟨by kernel_rfl, ?_⟩) hH ?_
  rotate_left 1
  · intro wq hq; have c4 := blk_cell hq 4; have c5 := blk_cell hq 5; simp only [List.getElem?_toArray, List.getElem?_cons_succ, List.getElem?_cons_zero] at c4 c5; first | (go_simp; done) | (go_simp; with_reducible rfl)
  simp only [Act.put, List.setIfInBounds_toArray, List.set_cons_zero, List.set_cons_succ]
  refine wpAnyH_take (i := 19) (oi := ⟨some 54, _, _, _, _, _⟩) (v := ?_) rfl (by kernel_rfl) (by kernel_rfl) (by kernel_rfl) (fun _ _ _ h => h) (Or.inl ⟨by kernel_rfl, ?_⟩) hH ?_
  rotate_left 1
  · intro wq hq; have c4 := blk_cell hq 4; have c5 := blk_cell hq 5; simp only [List.getElem?_toArray, List.getElem?_cons_succ, List.getElem?_cons_zero] at c4 c5; first | (go_simp; done) | (go_simp; with_reducible rfl)
  simp only [Act.put, List.setIfInBounds_toArray, List.set_cons_zero, List.set_cons_succ]
  refine wpAnyH_take (i := 20) (oi := ⟨some 55, _, _, _, _, _⟩) (v := ?_) rfl (by kernel_rfl) (by kernel_rfl) (by kernel_rfl) (fun _ _ _ h => h) (Or.inl ⟨by kernel_rfl, ?_⟩) hH ?_
  rotate_left 1
  · intro wq hq; have c4 := blk_cell hq 4; have c5 := blk_cell hq 5; simp only [List.getElem?_toArray, List.getElem?_cons_succ, List.getElem?_cons_zero] at c4 c5; first | (go_simp; done) | (go_simp; with_reducible rfl)
  simp only [Act.put, List.setIfInBounds_toArray, List.set_cons_zero, List.set_cons_succ]
  refine wpAnyH_take (i := 21) (oi := ⟨some 56, _, _, _, _, _⟩) (v := ?_) rfl (by kernel_rfl) (by kernel_rfl) (by kernel_rfl) (fun _ _ _ h => h) (Or.inl ⟨by kernel_rfl, ?_⟩) hH ?_
  rotate_left 1
  · intro wq hq; have c4 := blk_cell hq 4; have c5 := blk_cell hq 5; simp only [List.getElem?_toArray, List.getElem?_cons_succ, List.getElem?_cons_zero] at c4 c5; first | (go_simp; done) | (go_simp; with_reducible rfl)
  simp only [Act.put, List.setIfInBounds_toArray, List.set_cons_zero, List.set_cons_succ]
  refine wpAnyH_take (i := 22) (oi := ⟨some 57, _, _, _, _, _⟩) (v := ?_) rfl (by kernel_rfl) (by kernel_rfl) (by kernel_rfl) (fun _ _ _ h => h) (Or.inl ⟨by kernel_rfl, ?_⟩) hH ?_
  rotate_left 1
  · intro wq hq; have c4 := blk_cell hq 4; have c5 := blk_cell hq 5; simp only [List.getElem?_toArray, List.getElem?_cons_succ, List.getElem?_cons_zero] at c4 c5; first | (go_simp; done) | (go_simp; with_reducible rfl)
  simp only [Act.put, List.setIfInBounds_toArray, List.set_cons_zero, List.set_cons_succ]
  refine wpAnyH_ready (rs := [23]) (by kernel_rfl) (by simp) (AllReadyH.cons (o := ⟨some 58, _, _, _, _, _⟩) rfl (fun K hK => ?_) AllReadyH.nil)
  go_simp
  refine (kept_bool a2 l2 ca2 gz Z true (w5.drewN kk) (by have := HL2.out; omega) (show (w5.drewN kk).rowIs gz 4 (l2 + 3) (fun i => Value.bool (if i < l2 then Z i else true)) from HRZ5.out) (show IsRow (w5.drewN kk) a2 l2 (fun i => .bool (Z i)) from HRB5.out)).mono ?_
  rintro e w6 ⟨rfl, kz, rfl⟩
  go_wp2_with fail
  refine hK.out _ _ ?_ (fun hH => ?_)
  · exact hH
  clear hK K
  try simp only [Act.put, List.setIfInBounds_toArray, List.set_cons_zero, List.set_cons_succ]
  refine wpAnyH_take (i := 24) (oi := ⟨some 59, _, _, _, _, _⟩) (v := ?_) rfl (by kernel_rfl) (by kernel_rfl) (by kernel_rfl) (fun _ _ _ h => h) (Or.inl ⟨by kernel_rfl, ?_⟩) hH ?_
  rotate_left 1
  · intro wq hq; have c4 := blk_cell hq 4; have c5 := blk_cell hq 5; simp only [List.getElem?_toArray, List.getElem?_cons_succ, List.getElem?_cons_zero] at c4 c5; first | (go_simp; done) | (go_simp; with_reducible rfl)
  simp only [Act.put, List.setIfInBounds_toArray, List.set_cons_zero, List.set_cons_succ]
  refine wpAnyH_take (i := 25) (oi := ⟨some 10, _, _, _, _, _⟩) (v := ?_) rfl (by kernel_rfl) (by kernel_rfl) (by kernel_rfl) (fun _ _ _ h => h) (Or.inl ⟨by kernel_rfl, ?_⟩) hH ?_
  rotate_left 1
  · intro wq hq; have c4 := blk_cell hq 4; have c5 := blk_cell hq 5; simp only [List.getElem?_toArray, List.getElem?_cons_succ, List.getElem?_cons_zero] at c4 c5; first | (go_simp; done) | (go_simp; with_reducible rfl)
  simp only [Act.put, List.setIfInBounds_toArray, List.set_cons_zero, List.set_cons_succ]
  refine wpAnyH_done (by kernel_rfl) ?_ _

  have HF2 := HF.out.then_below (drewN_below _ (kk + kz))
  have HRI5 : (w5.drewN (kk + kz)).rowIs gi 5 (l + 3) (fun i => Value.int .u8 (if i < l then V i else 71)) := HRI5'.out
  have HFF := Lib.hid HF2
  have HRI6 := Lib.hid HRI5
  clear HF2 HRI5
  generalize w5.drewN (kk + kz) = w6 at *
  go_wp2_with fail
  refine (spoil_in gi 0 l (l + 3) (by have := HL.out; omega) w6 (fun i hi => ⟨_, by rw [Nat.zero_add]; exact HRI6.out.cell (i := i) (by omega)⟩) (fun i hi => HRI6.out.frozen _)).mono ?_
  rintro e w7 ⟨rfl, hs⟩
  have HZ : Hid (BothTo w w7 B b n wb S rv (m + 200)) := by
    have h6 := HFF.out.other hs HGR.out.1 N1.out.1 N1.out.2.2.2 N1.out.2.1 N1.out.2.2.1
    exact h6.to (HBF.out.trans ((Below.refl _ _).drew)) (fun g e => by have := HG.out.1; omega)
  clear hs
  go_wp2_with fail
  go_ret
  exact ⟨by first | rfl | simp, HZ.out⟩
end Go.Proofs.Ytebdbbpefmgooaa
