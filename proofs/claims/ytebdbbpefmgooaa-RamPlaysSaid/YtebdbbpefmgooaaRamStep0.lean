/- One call of the memory's script, Write: both answer alike. -/
import Derived.Test.YtebdbbpefmgooaaRamBoth
import Derived.Test.YtebdbbpefmgooaaRomLoadsW
import Derived.StillTailTactics
import Derived.BigRegion
import Derived.Deep.RegionWith
import Derived.Deep.RegionHeld3
import Derived.Deep.QuietTactic
import Derived.BigQuiet
import Derived.Deep.DeepFit
import Derived.Deep.DeepMust
import Derived.Handy
set_option linter.unusedVariables false
set_option linter.unusedSimpArgs false
namespace Go.Proofs.Ytebdbbpefmgooaa
open Go.RowKit
set_option maxRecDepth 100000
theorem Apart.of_lt {a : Option Addr} {B : Nat} (h : ∀ b o s, a = some ⟨b, o, s⟩ → b < B) {T : Nat → Prop} (hT : ∀ g, T g → B ≤ g) : Apart T a := fun b o s e hT2 => by have := h b o s e; have := hT b hT2; omega
theorem isRow_below {w w' : World} {a : Option Addr} {n : Nat} {V : Nat → Value} (h : IsRow w a n V) {B : Nat} (hb : Below B w w') (ha : 0 < n → ∀ b o s, a = some ⟨b, o, s⟩ → b < B) : IsRow w' a n V := by
  intro hn
  obtain ⟨b, o, rfl, hlt, hc⟩ := h hn
  refine ⟨b, o, rfl, Nat.lt_of_lt_of_le hlt hb.size, fun i hi => ?_⟩
  rw [← hc i hi]
  unfold World.cell?
  simp only [hb.block b (ha hn b o none rfl)]
set_option maxHeartbeats 8000000 in
theorem step_write {w : World} {B b n wb : Nat} {ct : Nat → Nat} {S : Nat → Prop} {rv : Value} {c : Nat → Int × Int} {m : Nat} (h : Both w B b n wb ct S rv c m) (n4 : (4 : Int) ≤ n) (n256 : (n : Int) ≤ 256) (hmx : (m : Int) + 200 ≤ 100000000)
    (kd k x v : Int) (raw : Bool) (a : Option Addr) (l ca : Nat) (t : Value) (x0 : 0 ≤ x) (x1 : x < 18446744073709551616) (V : Nat → Int) (hV : ∀ i, 0 ≤ V i ∧ V i ≤ 255) (hl : (l : Int) ≤ 200) (hn : a = none → ca = 0) (hle : l ≤ ca) (hr : IsRow w a l (fun i => .int .u8 (V i))) (hlo : 0 < l → ∀ b o s, a = some ⟨b, o, s⟩ → b < B)
    (e1 : (kd == 1) = false) (e2 : (kd == 2) = false) (e3 : (kd == 3) = false) (e4 : (kd == 4) = false) :
    Calls Try.prog 51 #[.pointer (some ⟨b, 0, none⟩), .pointer (some ⟨wb, 0, none⟩), .agg #[.int .i64 kd, .int .i64 k, .int .u64 x, .bool raw, .slice a l ca, t, .int .u64 v]] w fun e w' => e = .returned (.bool true) ∧ BothTo w w' B b n wb S rv (m + 200) := by
  have H := Lib.hid h
  have HX := Lib.hid (And.intro x0 x1)
  have HMX := Lib.hid hmx
  have HVV := Lib.hid hV
  have HR := Lib.hid hr
  have HLO := Lib.hid hlo
  have HN := Lib.hid (And.intro hn hle)
  have HL := Lib.hid hl
  have HP := fun W : World => Lib.hid (law_place (w := W) kd k x v raw (.slice a l ca) t x0 x1)
  clear h hmx hV hr hlo hn hle hl
  go_enter Try.func51, Try.ntmps51
  go_wp2_with fail
  refine ((HP _).out).mono ?_
  rintro e w1 ⟨rfl, hb1⟩
  have p0 := placeAt_lo x raw HX.out.1
  have p1 := placeAt_hi x raw HX.out.2
  generalize placeAt x raw = y at *
  have HB1 : Hid (Below w.heap.size w w1) := by
    have hz := (Below.refl w.heap.size w).alloc (Nat.le_refl _) (.cells #[.int .i64 kd, .int .i64 k, .int .u64 x, .bool raw, .slice a l ca, t, .int .u64 v] 91)
    exact hz.trans (hb1.mono (by simp))
  clear HP
  have hbk : w1.heap[w.heap.size]? = some (.cells #[.int .i64 kd, .int .i64 k, .int .u64 x, .bool raw, .slice a l ca, t, .int .u64 v] 91 (0, 0)) := (hb1.block _ (by simp)).trans (blk_alloc w _)
  have q0 : w1.cell? ⟨w.heap.size, 0, none⟩ = some (.int .i64 kd) := blk_cell hbk 0
  have q4 : w1.cell? ⟨w.heap.size, 4, none⟩ = some (.slice a l ca) := blk_cell hbk 4
  have H0 := Lib.hid H.out.B_lt
  have HR1 := Lib.hid (isRow_below HR.out (HB1.out.mono H0.out) HLO.out)
  have HOWN := Lib.hid (own_u8 a l ca V 71 w1 HN.out.1 HN.out.2 (by have := HL.out; omega) HR1.out)
  have HBK := Lib.hid hbk
  clear hb1 hbk
  go_wp2_with fail
  refine HOWN.out.mono ?_
  rintro e w2 ⟨rfl, hr2, hb2⟩
  have HB2 : Hid (Below w.heap.size w w2) := HB1.out.trans (hb2.mono HB1.out.size)
  have HBK2 : Hid (w2.heap[w.heap.size]? = some (.cells #[.int .i64 kd, .int .i64 k, .int .u64 x, .bool raw, .slice a l ca, t, .int .u64 v] 91 (0, 0))) := (hb2.block _ (blk_lt HBK.out)).trans HBK.out
  have HG : Hid (w.heap.size < w1.heap.size) := blk_lt HBK.out
  have HRI := Lib.hid hr2
  have HR2 := Lib.hid (isRow_below HR.out (HB2.out.mono H0.out) HLO.out)
  have H2 := Lib.hid (H.out.below HB2.out)
  have HGR := Lib.hid (Nat.lt_of_lt_of_le (HRI.out.lt) (Nat.le_refl _))
  generalize hgi : w1.heap.size = gi at *
  have HNO : ∀ q, w.heap.size ≤ q → Hid (¬ S q ∧ q ≠ b ∧ q ≠ wb ∧ rv.ownBlock ≠ some q) := fun q hq => by
    have h := H.out
    refine ⟨fun e => ?_, ?_, ?_, fun e => ?_⟩
    · have := h.ram.lt e; omega
    · have := h.ram.self.2; omega
    · have := h.wb_lt; omega
    · have := (h.sv _ e).2.2.2; omega
  have HN1 := HNO w.heap.size (Nat.le_refl _)
  have HN2 := HNO gi (Nat.le_of_lt HG.out)
  clear hr2 hb2 q0 q4 HOWN HNO HR1 HBK
  have HIB : Hid (IsB w2.drew (some ⟨gi, 0, none⟩) l (listOf V l)) := ⟨listOf_len _ _, fun z hz => by
    simp only [listOf, List.mem_map] at hz
    obtain ⟨i, _, rfl⟩ := hz
    exact HVV.out i, .inr ⟨gi, 0, rfl, fun i hi => by rw [Nat.zero_add, listOf_getD _ _ _ hi]; exact (HRI.out.cell (i := i) (by omega)).trans (by rw [if_pos hi])⟩⟩
  clear hgi
  go_wp2_with fail
  refine wp_region_held_drew (S := fun wq => wq.heap[w.heap.size]? = some (.cells #[.int .i64 kd, .int .i64 k, .int .u64 x, .bool raw, .slice a l ca, t, .int .u64 v] 91 (0, 0))) (by kernel_rfl) HBK2.out (fun hH => ?_)
  refine wpAnyH_take (i := 0) (oi := ⟨some 139, _, _, _, _, _⟩) (v := ?_) rfl (by kernel_rfl) (by kernel_rfl) (by kernel_rfl) (fun _ _ _ h => h) (Or.inl ⟨by kernel_rfl, ?_⟩) hH ?_
  rotate_left 1
  · intro wq hq; have c4 := blk_cell hq 4; simp only [List.getElem?_toArray, List.getElem?_cons_succ, List.getElem?_cons_zero] at c4; first | (go_simp; done) | (go_simp; with_reducible rfl)
  simp only [Act.put, List.setIfInBounds_toArray, List.set_cons_zero, List.set_cons_succ]
  refine wpAnyH_take (i := 1) (oi := ⟨some 140, _, _, _, _, _⟩) (v := ?_) rfl (by kernel_rfl) (by kernel_rfl) (by kernel_rfl) (fun _ _ _ h => h) (Or.inl ⟨by kernel_rfl, ?_⟩) hH ?_
  rotate_left 1
  · intro wq hq; have c4 := blk_cell hq 4; simp only [List.getElem?_toArray, List.getElem?_cons_succ, List.getElem?_cons_zero] at c4; first | (go_simp; done) | (go_simp; with_reducible rfl)
  simp only [Act.put, List.setIfInBounds_toArray, List.set_cons_zero, List.set_cons_succ]
  refine wpAnyH_take (i := 2) (oi := ⟨some 141, _, _, _, _, _⟩) (v := ?_) rfl (by kernel_rfl) (by kernel_rfl) (by kernel_rfl) (fun _ _ _ h => h) (Or.inl ⟨by kernel_rfl, ?_⟩) hH ?_
  rotate_left 1
  · intro wq hq; have c4 := blk_cell hq 4; simp only [List.getElem?_toArray, List.getElem?_cons_succ, List.getElem?_cons_zero] at c4; first | (go_simp; done) | (go_simp; with_reducible rfl)
  simp only [Act.put, List.setIfInBounds_toArray, List.set_cons_zero, List.set_cons_succ]
  refine wpAnyH_take (i := 4) (oi := ⟨some 143, _, _, _, _, _⟩) (v := ?_) rfl (by kernel_rfl) (by kernel_rfl) (by kernel_rfl) (fun _ _ _ h => h) (Or.inl ⟨by kernel_rfl, ?_⟩) hH ?_
  rotate_left 1
  · intro wq hq; have c4 := blk_cell hq 4; simp only [List.getElem?_toArray, List.getElem?_cons_succ, List.getElem?_cons_zero] at c4; first | (go_simp; done) | (go_simp; with_reducible rfl)
  simp only [Act.put, List.setIfInBounds_toArray, List.set_cons_zero, List.set_cons_succ]
  refine wpAnyH_take (i := 5) (oi := ⟨some 144, _, _, _, _, _⟩) (v := ?_) rfl (by kernel_rfl) (by kernel_rfl) (by kernel_rfl) (fun _ _ _ h => h) (Or.inl ⟨by kernel_rfl, ?_⟩) hH ?_
  rotate_left 1
  · intro wq hq; have c4 := blk_cell hq 4; simp only [List.getElem?_toArray, List.getElem?_cons_succ, List.getElem?_cons_zero] at c4; first | (go_simp; done) | (go_simp; with_reducible rfl)
  simp only [Act.put, List.setIfInBounds_toArray, List.set_cons_zero, List.set_cons_succ]
  refine wpAnyH_take (i := 6) (oi := ⟨some 145, _, _, _, _, _⟩) (v := ?_) rfl (by kernel_rfl) (by kernel_rfl) (by kernel_rfl) (fun _ _ _ h => h) (Or.inl ⟨by kernel_rfl, ?_⟩) hH ?_
  rotate_left 1
  · intro wq hq; have c4 := blk_cell hq 4; simp only [List.getElem?_toArray, List.getElem?_cons_succ, List.getElem?_cons_zero] at c4; first | (go_simp; done) | (go_simp; with_reducible rfl)
  simp only [Act.put, List.setIfInBounds_toArray, List.set_cons_zero, List.set_cons_succ]
  refine wpAnyH_take (i := 7) (oi := ⟨some 146, _, _, _, _, _⟩) (v := ?_) rfl (by kernel_rfl) (by kernel_rfl) (by kernel_rfl) (fun _ _ _ h => h) (Or.inl ⟨by kernel_rfl, ?_⟩) hH ?_
  rotate_left 1
  · intro wq hq; have c4 := blk_cell hq 4; simp only [List.getElem?_toArray, List.getElem?_cons_succ, List.getElem?_cons_zero] at c4; first | (go_simp; done) | (go_simp; with_reducible rfl)
  simp only [Act.put, List.setIfInBounds_toArray, List.set_cons_zero, List.set_cons_succ]
  refine wpAnyH_ready (rs := [3]) (by kernel_rfl) (by simp) (AllReadyH.cons (o := ⟨some 142, _, _, _, _, _⟩) rfl (fun K hK => ?_) AllReadyH.nil)
  go_simp
  have AP1 : Apart S (some ⟨gi, 0, none⟩) := fun b o s e hS => by cases e; exact HN2.out.1 hS
  refine (ram_write_any (w := w2.drew) H2.out.ram.drew y p0 p1 (some ⟨gi, 0, none⟩) l (l + 3) HL.out V HIB.out AP1).mono ?_
  rintro e w3 ⟨rfl, h3⟩
  have HS3 : Hid (Turned S w2.drew w3) := by obtain ⟨_, _, r, _⟩ := h3; exact r
  go_wp2_with fail
  refine hK.out _ _ ?_ (fun hH => ?_)
  · exact (HS3.out.block _ (blk_lt hH) HN1.out.1).trans hH
  have HH3 := Lib.hid h3
  clear h3 AP1
  clear hK K
  try simp only [Act.put, List.setIfInBounds_toArray, List.set_cons_zero, List.set_cons_succ]
  refine wpAnyH_ready (rs := [8]) (by kernel_rfl) (by simp) (AllReadyH.cons (o := ⟨some 147, _, _, _, _, _⟩) rfl (fun K hK => ?_) AllReadyH.nil)
  go_simp
  have HQ3 : Hid (RefRam w3 B wb n rv c m) := (H2.out.ref.below (Below.refl _ _).drew).turned HS3.out H2.out.sw (fun g hg => (H2.out.sv g hg).1)
  have HBW := Lib.hid (Nat.le_trans H2.out.B_lt HS3.out.size)
  have HR3 := Lib.hid (isRow_turned0 (show IsRow w2.drew a l (fun i => .int .u8 (V i)) from HR2.out) HS3.out (fun h0 => Apart.of_lt (HLO.out h0) H2.out.lo.2.2))
  have HRI3 : Hid (w3.rowIs gi 5 (l + 3) (fun i => Value.int .u8 (if i < l then V i else 71))) := (HRI.out.drew).of_block (HS3.out.block _ HGR.out HN2.out.1)
  have AP2 : 0 < l → Apart (fun g => g = wb ∨ rv.ownBlock = some g) a := fun h0 => Apart.of_lt (HLO.out h0) (by
    rintro g (rfl | e)
    · exact H2.out.lo.2.1
    · obtain ⟨_, k⟩ := H2.out.ref.own
      rcases k with ⟨rfl, _⟩ | ⟨g', cap, cur, rfl, hg, _⟩
      · cases e
      · cases e; exact hg)
  refine (ref_some_all (w := w3) HQ3.out n4 n256 y p0 p1 a l ca HL.out V HR3.out HVV.out AP2 HMX.out HBW.out (fun e => (H2.out.sv wb e).2.2.1 rfl)).mono ?_
  rintro e w4 ⟨rfl, h4⟩
  have HS4 : Hid (Turned (fun g => g = wb ∨ rv.ownBlock = some g) w3 w4) := by obtain ⟨_, _, _, _, _, _, r, _⟩ := h4; exact r
  have HR4 := Lib.hid (isRow_turned0 (HR3.out) HS4.out AP2)
  have HRI4 : Hid (w4.rowIs gi 5 (l + 3) (fun i => Value.int .u8 (if i < l then V i else 71))) := HRI3.out.of_block (HS4.out.block _ HRI3.out.lt (by rintro (e | e); exact HN2.out.2.2.1 e; exact HN2.out.2.2.2 e))
  have HF : Hid (BothIn w2.drew w4 B b n wb S rv (m + 200) (fun _ => False)) := Both.turnIn (H2.out.below (Below.refl _ _).drew) HH3.out h4 (H2.out.same.someC n256 y V (fun i _ => (HVV.out i).1) _)
  go_wp2_with fail
  refine hK.out _ _ ?_ (fun hH => ?_)
  · exact (HS4.out.block _ (blk_lt hH) (by rintro (e | e); exact HN1.out.2.2.1 e; exact HN1.out.2.2.2 e)).trans hH
  clear h4 AP2 HH3
  clear hK K
  try simp only [Act.put, List.setIfInBounds_toArray, List.set_cons_zero, List.set_cons_succ]
  refine wpAnyH_take (i := 9) (oi := ⟨some 148, _, _, _, _, _⟩) (v := ?_) rfl (by kernel_rfl) (by kernel_rfl) (by kernel_rfl) (fun _ _ _ h => h) (Or.inl ⟨by kernel_rfl, ?_⟩) hH ?_
  rotate_left 1
  · intro wq hq; have c4 := blk_cell hq 4; simp only [List.getElem?_toArray, List.getElem?_cons_succ, List.getElem?_cons_zero] at c4; first | (go_simp; done) | (go_simp; with_reducible rfl)
  simp only [Act.put, List.setIfInBounds_toArray, List.set_cons_zero, List.set_cons_succ]
  refine wpAnyH_take (i := 10) (oi := ⟨some 149, _, _, _, _, _⟩) (v := ?_) rfl (by kernel_rfl) (by kernel_rfl) (by kernel_rfl) (fun _ _ _ h => h) (Or.inl ⟨by kernel_rfl, ?_⟩) hH ?_
  rotate_left 1
  · intro wq hq; have c4 := blk_cell hq 4; simp only [List.getElem?_toArray, List.getElem?_cons_succ, List.getElem?_cons_zero] at c4; first | (go_simp; done) | (go_simp; with_reducible rfl)
  simp only [Act.put, List.setIfInBounds_toArray, List.set_cons_zero, List.set_cons_succ]
  refine wpAnyH_take (i := 11) (oi := ⟨some 150, _, _, _, _, _⟩) (v := ?_) rfl (by kernel_rfl) (by kernel_rfl) (by kernel_rfl) (fun _ _ _ h => h) (Or.inl ⟨by kernel_rfl, ?_⟩) hH ?_
  rotate_left 1
  · intro wq hq; have c4 := blk_cell hq 4; simp only [List.getElem?_toArray, List.getElem?_cons_succ, List.getElem?_cons_zero] at c4; first | (go_simp; done) | (go_simp; with_reducible rfl)
  simp only [Act.put, List.setIfInBounds_toArray, List.set_cons_zero, List.set_cons_succ]
  refine wpAnyH_take (i := 12) (oi := ⟨some 151, _, _, _, _, _⟩) (v := ?_) rfl (by kernel_rfl) (by kernel_rfl) (by kernel_rfl) (fun _ _ _ h => h) (Or.inl ⟨by kernel_rfl, ?_⟩) hH ?_
  rotate_left 1
  · intro wq hq; have c4 := blk_cell hq 4; simp only [List.getElem?_toArray, List.getElem?_cons_succ, List.getElem?_cons_zero] at c4; first | (go_simp; done) | (go_simp; with_reducible rfl)
  simp only [Act.put, List.setIfInBounds_toArray, List.set_cons_zero, List.set_cons_succ]
  refine wpAnyH_take (i := 13) (oi := ⟨some 152, _, _, _, _, _⟩) (v := ?_) rfl (by kernel_rfl) (by kernel_rfl) (by kernel_rfl) (fun _ _ _ h => h) (Or.inl ⟨by kernel_rfl, ?_⟩) hH ?_
  rotate_left 1
  · intro wq hq; have c4 := blk_cell hq 4; simp only [List.getElem?_toArray, List.getElem?_cons_succ, List.getElem?_cons_zero] at c4; first | (go_simp; done) | (go_simp; with_reducible rfl)
  simp only [Act.put, List.setIfInBounds_toArray, List.set_cons_zero, List.set_cons_succ]
  refine wpAnyH_ready (rs := [14]) (by kernel_rfl) (by simp) (AllReadyH.cons (o := ⟨some 153, _, _, _, _, _⟩) rfl (fun K hK => ?_) AllReadyH.nil)
  go_simp
  refine (kept_u8 a l ca gi V 71 w4 (by have := HL.out; omega) HRI4.out HR4.out).mono ?_
  rintro e w5 ⟨rfl, kk, rfl⟩
  go_wp2_with fail
  refine hK.out _ _ ?_ (fun hH => ?_)
  · exact hH
  clear hK K
  try simp only [Act.put, List.setIfInBounds_toArray, List.set_cons_zero, List.set_cons_succ]
  refine wpAnyH_take (i := 15) (oi := ⟨some 154, _, _, _, _, _⟩) (v := ?_) rfl (by kernel_rfl) (by kernel_rfl) (by kernel_rfl) (fun _ _ _ h => h) (Or.inl ⟨by kernel_rfl, ?_⟩) hH ?_
  rotate_left 1
  · intro wq hq; have c4 := blk_cell hq 4; simp only [List.getElem?_toArray, List.getElem?_cons_succ, List.getElem?_cons_zero] at c4; first | (go_simp; done) | (go_simp; with_reducible rfl)
  simp only [Act.put, List.setIfInBounds_toArray, List.set_cons_zero, List.set_cons_succ]
  refine wpAnyH_take (i := 16) (oi := ⟨some 22, _, _, _, _, _⟩) (v := ?_) rfl (by kernel_rfl) (by kernel_rfl) (by kernel_rfl) (fun _ _ _ h => h) (Or.inl ⟨by kernel_rfl, ?_⟩) hH ?_
  rotate_left 1
  · intro wq hq; have c4 := blk_cell hq 4; simp only [List.getElem?_toArray, List.getElem?_cons_succ, List.getElem?_cons_zero] at c4; first | (go_simp; done) | (go_simp; with_reducible rfl)
  simp only [Act.put, List.setIfInBounds_toArray, List.set_cons_zero, List.set_cons_succ]
  refine wpAnyH_done (by kernel_rfl) ?_ _

  have HF2 := HF.out.then_below (drewN_below _ kk)
  have HRI5 : (w4.drewN kk).rowIs gi 5 (l + 3) (fun i => Value.int .u8 (if i < l then V i else 71)) := HRI4.out
  have HFF := Lib.hid HF2
  have HRI6 := Lib.hid HRI5
  clear HF2 HRI5
  generalize w4.drewN kk = w5 at *
  go_wp2_with fail
  refine (spoil_in gi 0 l (l + 3) (by have := HL.out; omega) w5 (fun i hi => ⟨_, by rw [Nat.zero_add]; exact HRI6.out.cell (i := i) (by omega)⟩) (fun i hi => HRI6.out.frozen _)).mono ?_
  rintro e w6 ⟨rfl, hs⟩
  have HZ : Hid (BothTo w w6 B b n wb S rv (m + 200)) := by
    have h6 := HFF.out.other hs HGR.out HN2.out.1 HN2.out.2.2.2 HN2.out.2.1 HN2.out.2.2.1
    exact h6.to (HB2.out.trans ((Below.refl _ _).drew)) (fun g e => by have := HG.out; omega)
  clear hs
  go_wp2_with fail
  go_ret
  exact ⟨by first | rfl | simp, HZ.out⟩
end Go.Proofs.Ytebdbbpefmgooaa
