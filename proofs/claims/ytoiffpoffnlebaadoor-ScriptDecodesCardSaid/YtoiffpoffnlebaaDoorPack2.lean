/- Contract of the reference's Decode of a script. No condition. Rules by which the walk loads and stores a whole struct in one step: a block told by its row of cells. No condition. Contracts of tappethelp.Own, Same, Plain, Kept, CopyBytes. No condition. -/
import Derived.Test.YtoiffpoffnlebaaDoorPack1
import Derived.StillTailTactics
import Derived.BigRegion
import Derived.Deep.RegionWith
import Derived.Deep.RegionHeld3
import Derived.IntWalk
import Derived.Laws.Rows
import Derived.Laws.Tables
import Derived.Deep.OwnRows
import Derived.Deep.QuietTactic
import Derived.BigQuiet
import Derived.Deep.LoopGhost
import Derived.Deep.DeepCutAuto
import Derived.Deep.DeepFit
import Derived.Deep.DeepMust
import Derived.Handy
section
set_option linter.unusedVariables false
set_option linter.unusedSimpArgs false
namespace Go.Proofs.YtoiffpoffnlebaaDoor
open Go.RowKit
set_option maxRecDepth 100000
theorem ref_take12 (a : Option Addr) (m c : Nat) (l : List Int) (w : World) (hb : IsB w a m l) (hlt : ∀ b o s, a = some ⟨b, o, s⟩ → b < w.heap.size) (hm : (m : Int) ≤ 140737488351232) :
    Calls Tryd.prog 16 #[.slice a m c, .int .i64 0, .int .i64 12] w fun e w' => e = .returned (.slice (some ⟨w.heap.size, 0, none⟩) 12 12) ∧ w'.rowIs w.heap.size 5 12 (fun j => .int .u8 (byteAt l j : Nat)) ∧ Below w.heap.size w w' := by
  have := ref_take a m c l w hb hlt hm 0 12 (by omega) (by omega)
  simp only [Nat.zero_add] at this
  exact this
theorem ref_take_img (a : Option Addr) (m c : Nat) (l : List Int) (w : World) (hb : IsB w a m l) (hlt : ∀ b o s, a = some ⟨b, o, s⟩ → b < w.heap.size) (hm : (m : Int) ≤ 140737488351232) (n : Nat) (hn : (n : Int) ≤ m) :
    Calls Tryd.prog 16 #[.slice a m c, .int .i64 12, .int .i64 n] w fun e w' => e = .returned (.slice (some ⟨w.heap.size, 0, none⟩) n n) ∧ w'.rowIs w.heap.size 5 n (fun j => .int .u8 (byteAt l (12 + j) : Nat)) ∧ Below w.heap.size w w' :=
  ref_take a m c l w hb hlt hm 12 n (by omega) (by omega)
/-- behind the first twelve bytes -/
def HeadIs (w : World) (l : List Int) (wx : World) : Prop :=
  wx.rowIs (w.heap.size + 1) 5 12 (fun j => .int .u8 (byteAt l j : Nat)) ∧ Below w.heap.size w wx ∧ w.heap.size + 2 ≤ wx.heap.size ∧
  wx.heap[w.heap.size]? = some (.cells #[Value.int .i64 0, Value.int .i64 0, Value.int .u64 0] 26 (0, 0))
theorem HeadIs.alloc {w wx : World} {l : List Int} (h : HeadIs w l wx) (o : Obj) : HeadIs w l (wx.alloc o) :=
  ⟨h.1.alloc o, h.2.1.alloc h.2.1.size o, by have := h.2.2.1; simp; omega, (blk_alloc_old _ _ _ (by have := h.2.2.1; omega)).trans h.2.2.2⟩
theorem HeadIs.drew {w wx : World} {l : List Int} (h : HeadIs w l wx) : HeadIs w l wx.drew := ⟨h.1.drew, h.2.1.drew, h.2.2⟩
theorem HeadIs.drewN {w wx : World} {l : List Int} (h : HeadIs w l wx) (n : Nat) : HeadIs w l (wx.drewN n) := ⟨h.1, ⟨h.2.1.os, h.2.1.tape, h.2.1.output, h.2.1.size, h.2.1.block⟩, h.2.2⟩
theorem HeadIs.below {w wx wy : World} {l : List Int} (h : HeadIs w l wx) (hb : Below wx.heap.size wx wy) : HeadIs w l wy :=
  ⟨h.1.of_block (hb.block _ h.1.lt), h.2.1.trans (hb.mono h.2.1.size), Nat.le_trans h.2.2.1 hb.size, (hb.block _ (blk_lt h.2.2.2)).trans h.2.2.2⟩
theorem isB_below {w w' : World} {a : Option Addr} {n : Nat} {l : List Int} (h : IsB w a n l) (hl : ∀ b o s, a = some ⟨b, o, s⟩ → b < w.heap.size) (hb : Below w.heap.size w w') : IsB w' a n l :=
  ⟨h.hlen, h.bd, h.cell.imp id fun ⟨b, o, e, hc⟩ => ⟨b, o, e, fun i hi => (hb.cell (p := ⟨b, o + i, none⟩) (hl b o none e)).trans (hc i hi)⟩⟩
theorem row_src {w : World} {g : Nat} {l : List Int} (hbd : ∀ x ∈ l, 0 ≤ x ∧ x ≤ 255) (h : w.rowIs g 5 (imgLen l) (fun j => .int .u8 (byteAt l (12 + j) : Nat))) : SrcIs w (some ⟨g, 0, none⟩) (imgLen l) ((imgOf l).map (Value.int .u8)) := by
  have hle : imgLen l ≤ l.length - 12 := by unfold imgLen; omega
  refine ⟨by simp [imgOf]; omega, .inr ⟨g, 0, rfl, fun i hi => ?_⟩⟩
  rw [Nat.zero_add, h.cell hi]
  have hi2 : 12 + i < l.length := by omega
  have := hbd (l[12 + i]) (by simp)
  simp only [imgOf, List.getElem?_map, List.getElem?_take, hi, if_true, List.getElem?_drop, List.getElem?_eq_getElem hi2, Option.map_some, byteAt, List.getD_eq_getElem?_getD, Option.getD_some]
  rw [Int.toNat_of_nonneg this.1]
def setupCells (l : List Int) : Array Value := #[.int .i64 (4 + (byteAt l 0 : Int) % 13), .int .i64 ((byteAt l 1 : Int) % 33), .int .u64 (wordN (fun i => byteAt l (2 + i)) 8 : Nat)]
/-- behind the image -/
def ImgR (w : World) (l : List Int) (q : Nat) (v : Value) (wx : World) : Prop := w.heap.size + 2 ≤ q ∧ wx.heap[q]? = some (.cells (setupCells l) 26 (0, 0)) ∧ HeadIs w l wx ∧ wx.ownsRow (w.heap.size + 2) 5 1 v (imgLen l) ((imgOf l).map (Value.int .u8))
/-- the end -/
theorem ref_end {w w3 wr : World} {l : List Int} {q : Nat} {u inp : Value} (hC : ImgR w l q u w3) (hT : Below w3.heap.size w3 wr) (hW : wr.ownsRow w3.heap.size 34 4 inp (inpN l) ((inpTo l (inpN l)).flatMap Inp.vals)) (u0 u1 u2 : Value) :
    ScrIs w l (.returned (.tuple #[.agg #[.int .i64 (4 + (byteAt l 0 : Int) % 13), .int .i64 ((byteAt l 1 : Int) % 33), .int .u64 (wordN (fun i => byteAt l (2 + i)) 8 : Nat)], u, inp])) (((wr.setCell ⟨w.heap.size, 0, none⟩ u0).setCell ⟨w.heap.size, 1, none⟩ u1).setCell ⟨w.heap.size, 2, none⟩ u2) := by
  have hz := hC.2.2.1.2.2.1
  refine ⟨u, inp, rfl, ?_, ?_, ?_⟩
  · exact own_mono (base := w.heap.size + 2) (by omega) (own_set3 (B := w.heap.size) (by omega) _ _ _ (own_below hC.2.2.2 hT))
  · exact own_mono (base := w3.heap.size) (by omega) (own_set3 (by omega) _ _ _ hW)
  · exact below_set3 (hC.2.2.1.2.1.trans (hT.mono (by omega))) _ _ _
/-- behind the setup -/
def SetIs (w : World) (l : List Int) (s6 : Value) (wx : World) : Prop := ∃ q, s6 = .pointer (some ⟨q, 0, none⟩) ∧ w.heap.size + 2 ≤ q ∧ wx.heap[q]? = some (.cells (setupCells l) 26 (0, 0)) ∧ HeadIs w l wx
theorem head_isB {w wx : World} {l : List Int} (h : HeadIs w l wx) (hbd : ∀ x ∈ l, 0 ≤ x ∧ x ≤ 255) : IsB wx (some ⟨w.heap.size + 1, 2, none⟩) 8 ((List.range 8).map fun i => (byteAt l (2 + i) : Int)) := by
  refine ⟨by simp, fun x hx => ?_, .inr ⟨w.heap.size + 1, 2, rfl, fun i hi => ?_⟩⟩
  · obtain ⟨i, _, rfl⟩ := List.mem_map.1 hx
    have := byteAt_lt hbd (2 + i)
    omega
  · rw [h.1.cell (i := 2 + i) (by omega)]
    simp [List.getD, hi]
theorem head_word {w wx : World} {l : List Int} (h : HeadIs w l wx) (hbd : ∀ x ∈ l, 0 ≤ x ∧ x ≤ 255) (c : Nat) :
    Calls Tryd.prog 17 #[.slice (some ⟨w.heap.size + 1, 2, none⟩) 8 c] wx fun e w' => e = .returned (.int .u64 (wordN (fun i => byteAt l (2 + i)) 8 : Nat)) ∧ wx = w' := by
  have := ref_word (some ⟨w.heap.size + 1, 2, none⟩) 8 c _ wx (head_isB h hbd) (by omega)
  rw [wordN_congr 8 (g := fun i => byteAt l (2 + i)) (fun i hi => by simp [List.getD, hi])] at this
  exact this
set_option maxHeartbeats 8000000 in
theorem ref_decode (a : Option Addr) (m c : Nat) (l : List Int) (w : World) (hb : IsB w a m l) (hlt : ∀ b o s, a = some ⟨b, o, s⟩ → b < w.heap.size) (hm : (m : Int) ≤ 140737488351232) :
    Calls Tryd.prog 7 #[.slice a m c] w (ScrIs w l) := by
  have H := Lib.hid hb
  have HL := Lib.hid hlt
  have HB := Lib.hid hb.bd
  have HN := Lib.hid hb.hlen
  clear hb hlt
  go_enter Tryd.func7, Tryd.ntmps7
  go_wp2_with fail
  have H0 := Lib.hid (isB_turned H.out (Turned.alloc (Turned.refl (fun _ => False) w) (.cells #[Value.int .i64 0, Value.int .i64 0, Value.int .u64 0] 26)) (fun _ _ _ _ => id))
  refine (ref_take12 a m c l _ H0.out (fun b o s e => by have := HL.out b o s e; simp; omega) hm).mono ?_
  rintro e w1 ⟨rfl, hr, hbl⟩
  have HH : Hid (HeadIs w l w1) := by
    simp at hr hbl
    have hz := hr.lt
    exact ⟨hr, ((Below.refl _ _).alloc (Nat.le_refl _) _).trans (hbl.mono (by omega)), by omega, (hbl.block w.heap.size (by omega)).trans (blk_alloc _ _)⟩
  clear hr hbl H0
  have hsz : (w.alloc (.cells #[Value.int .i64 0, Value.int .i64 0, Value.int .u64 0] 26)).heap.size = w.heap.size + 1 := by simp
  rw [hsz]
  clear hsz
  have k0 : (byteAt l 0 : Int) < 256 := by have := byteAt_lt HB.out 0; omega
  have k1 : (byteAt l 1 : Int) < 256 := by have := byteAt_lt HB.out 1; omega
  have wr0 : IntKind.i64.wrap (byteAt l 0 : Int) = byteAt l 0 := IntWalk.i64_in _ (by omega)
  have wr1 : IntKind.i64.wrap (byteAt l 1 : Int) = byteAt l 1 := IntWalk.i64_in _ (by omega)
  have wr2 : IntKind.i64.wrap (4 + (byteAt l 0 : Int) % 13) = 4 + (byteAt l 0 : Int) % 13 := IntWalk.i64_in _ (by omega)
  have wt0 : (byteAt l 0 : Int).tmod 13 = (byteAt l 0 : Int) % 13 := Int.tmod_eq_emod_of_nonneg (by omega)
  have wt1 : (byteAt l 1 : Int).tmod 33 = (byteAt l 1 : Int) % 33 := Int.tmod_eq_emod_of_nonneg (by omega)
  go_upto_region 2 with fail
  go_cut [6] (fun s6 wx => SetIs w l s6 wx)
  case first =>
    as_aux_lemma =>
      go_wp2_with fail
      refine wp_region_held_drew (S := fun wq => HeadIs w l wq) (by kernel_rfl) ⟨HH.out.1.drew, HH.out.2.1.drew, HH.out.2.2⟩ (fun hH => ?_)
      refine wpAnyH_take (i := 0) (oi := ⟨some 14, _, _, _, _, _⟩) (v := ?_) rfl (by kernel_rfl) (by kernel_rfl) (by kernel_rfl) (fun _ _ _ h => h) (Or.inl ⟨by kernel_rfl, ?_⟩) hH ?_
      rotate_left 1
      · intro wq hq; have b0 : wq.cell? ⟨w.heap.size + 1, 0, none⟩ = some (.int .u8 (byteAt l 0)) := hq.1.cell (i := 0) (by decide); have b1 : wq.cell? ⟨w.heap.size + 1, 1, none⟩ = some (.int .u8 (byteAt l 1)) := hq.1.cell (i := 1) (by decide); clear hq; first | (go_simp; done) | (go_simp; with_reducible rfl)
      simp only [Act.put, List.setIfInBounds_toArray, List.set_cons_zero, List.set_cons_succ]
      refine wpAnyH_take (i := 1) (oi := ⟨some 15, _, _, _, _, _⟩) (v := ?_) rfl (by kernel_rfl) (by kernel_rfl) (by kernel_rfl) (fun _ _ _ h => h) (Or.inl ⟨by kernel_rfl, ?_⟩) hH ?_
      rotate_left 1
      · intro wq hq; have b0 : wq.cell? ⟨w.heap.size + 1, 0, none⟩ = some (.int .u8 (byteAt l 0)) := hq.1.cell (i := 0) (by decide); have b1 : wq.cell? ⟨w.heap.size + 1, 1, none⟩ = some (.int .u8 (byteAt l 1)) := hq.1.cell (i := 1) (by decide); clear hq; first | (go_simp; done) | (go_simp; with_reducible rfl)
      simp only [Act.put, List.setIfInBounds_toArray, List.set_cons_zero, List.set_cons_succ]
      refine wpAnyH_take (i := 2) (oi := ⟨some 16, _, _, _, _, _⟩) (v := ?_) rfl (by kernel_rfl) (by kernel_rfl) (by kernel_rfl) (fun _ _ _ h => h) (Or.inl ⟨by kernel_rfl, ?_⟩) hH ?_
      rotate_left 1
      · intro wq hq; have b0 : wq.cell? ⟨w.heap.size + 1, 0, none⟩ = some (.int .u8 (byteAt l 0)) := hq.1.cell (i := 0) (by decide); have b1 : wq.cell? ⟨w.heap.size + 1, 1, none⟩ = some (.int .u8 (byteAt l 1)) := hq.1.cell (i := 1) (by decide); clear hq; first | (go_simp; done) | (go_simp; with_reducible rfl)
      simp only [Act.put, List.setIfInBounds_toArray, List.set_cons_zero, List.set_cons_succ]
      refine wpAnyH_take (i := 3) (oi := ⟨some 17, _, _, _, _, _⟩) (v := ?_) rfl (by kernel_rfl) (by kernel_rfl) (by kernel_rfl) (fun _ _ _ h => h) (Or.inl ⟨by kernel_rfl, ?_⟩) hH ?_
      rotate_left 1
      · intro wq hq; have b0 : wq.cell? ⟨w.heap.size + 1, 0, none⟩ = some (.int .u8 (byteAt l 0)) := hq.1.cell (i := 0) (by decide); have b1 : wq.cell? ⟨w.heap.size + 1, 1, none⟩ = some (.int .u8 (byteAt l 1)) := hq.1.cell (i := 1) (by decide); clear hq; first | (go_simp; done) | (go_simp; with_reducible rfl)
      simp only [Act.put, List.setIfInBounds_toArray, List.set_cons_zero, List.set_cons_succ]
      refine wpAnyH_take (i := 4) (oi := ⟨some 18, _, _, _, _, _⟩) (v := ?_) rfl (by kernel_rfl) (by kernel_rfl) (by kernel_rfl) (fun _ _ _ h => h) (Or.inl ⟨by kernel_rfl, ?_⟩) hH ?_
      rotate_left 1
      · intro wq hq; have b0 : wq.cell? ⟨w.heap.size + 1, 0, none⟩ = some (.int .u8 (byteAt l 0)) := hq.1.cell (i := 0) (by decide); have b1 : wq.cell? ⟨w.heap.size + 1, 1, none⟩ = some (.int .u8 (byteAt l 1)) := hq.1.cell (i := 1) (by decide); clear hq; first | (go_simp; done) | (go_simp; with_reducible rfl)
      simp only [Act.put, List.setIfInBounds_toArray, List.set_cons_zero, List.set_cons_succ]
      refine wpAnyH_take (i := 5) (oi := ⟨some 19, _, _, _, _, _⟩) (v := ?_) rfl (by kernel_rfl) (by kernel_rfl) (by kernel_rfl) (fun _ _ _ h => h) (Or.inl ⟨by kernel_rfl, ?_⟩) hH ?_
      rotate_left 1
      · intro wq hq; have b0 : wq.cell? ⟨w.heap.size + 1, 0, none⟩ = some (.int .u8 (byteAt l 0)) := hq.1.cell (i := 0) (by decide); have b1 : wq.cell? ⟨w.heap.size + 1, 1, none⟩ = some (.int .u8 (byteAt l 1)) := hq.1.cell (i := 1) (by decide); clear hq; first | (go_simp; done) | (go_simp; with_reducible rfl)
      simp only [Act.put, List.setIfInBounds_toArray, List.set_cons_zero, List.set_cons_succ]
      refine wpAnyH_take (i := 6) (oi := ⟨some 20, _, _, _, _, _⟩) (v := ?_) rfl (by kernel_rfl) (by kernel_rfl) (by kernel_rfl) (fun _ _ _ h => h) (Or.inl ⟨by kernel_rfl, ?_⟩) hH ?_
      rotate_left 1
      · intro wq hq; have b0 : wq.cell? ⟨w.heap.size + 1, 0, none⟩ = some (.int .u8 (byteAt l 0)) := hq.1.cell (i := 0) (by decide); have b1 : wq.cell? ⟨w.heap.size + 1, 1, none⟩ = some (.int .u8 (byteAt l 1)) := hq.1.cell (i := 1) (by decide); clear hq; first | (go_simp; done) | (go_simp; with_reducible rfl)
      simp only [Act.put, List.setIfInBounds_toArray, List.set_cons_zero, List.set_cons_succ]
      refine wpAnyH_take (i := 7) (oi := ⟨some 21, _, _, _, _, _⟩) (v := ?_) rfl (by kernel_rfl) (by kernel_rfl) (by kernel_rfl) (fun _ _ _ h => h) (Or.inl ⟨by kernel_rfl, ?_⟩) hH ?_
      rotate_left 1
      · intro wq hq; have b0 : wq.cell? ⟨w.heap.size + 1, 0, none⟩ = some (.int .u8 (byteAt l 0)) := hq.1.cell (i := 0) (by decide); have b1 : wq.cell? ⟨w.heap.size + 1, 1, none⟩ = some (.int .u8 (byteAt l 1)) := hq.1.cell (i := 1) (by decide); clear hq; first | (go_simp; done) | (go_simp; with_reducible rfl)
      simp only [Act.put, List.setIfInBounds_toArray, List.set_cons_zero, List.set_cons_succ]
      refine wpAnyH_take (i := 8) (oi := ⟨some 22, _, _, _, _, _⟩) (v := ?_) rfl (by kernel_rfl) (by kernel_rfl) (by kernel_rfl) (fun _ _ _ h => h) (Or.inl ⟨by kernel_rfl, ?_⟩) hH ?_
      rotate_left 1
      · intro wq hq; have b0 : wq.cell? ⟨w.heap.size + 1, 0, none⟩ = some (.int .u8 (byteAt l 0)) := hq.1.cell (i := 0) (by decide); have b1 : wq.cell? ⟨w.heap.size + 1, 1, none⟩ = some (.int .u8 (byteAt l 1)) := hq.1.cell (i := 1) (by decide); clear hq; first | (go_simp; done) | (go_simp; with_reducible rfl)
      simp only [Act.put, List.setIfInBounds_toArray, List.set_cons_zero, List.set_cons_succ]
      refine wpAnyH_take (i := 9) (oi := ⟨some 23, _, _, _, _, _⟩) (v := ?_) rfl (by kernel_rfl) (by kernel_rfl) (by kernel_rfl) (fun _ _ _ h => h) (Or.inl ⟨by kernel_rfl, ?_⟩) hH ?_
      rotate_left 1
      · intro wq hq; have b0 : wq.cell? ⟨w.heap.size + 1, 0, none⟩ = some (.int .u8 (byteAt l 0)) := hq.1.cell (i := 0) (by decide); have b1 : wq.cell? ⟨w.heap.size + 1, 1, none⟩ = some (.int .u8 (byteAt l 1)) := hq.1.cell (i := 1) (by decide); clear hq; first | (go_simp; done) | (go_simp; with_reducible rfl)
      simp only [Act.put, List.setIfInBounds_toArray, List.set_cons_zero, List.set_cons_succ]
      refine wpAnyH_take (i := 10) (oi := ⟨some 24, _, _, _, _, _⟩) (v := ?_) rfl (by kernel_rfl) (by kernel_rfl) (by kernel_rfl) (fun _ _ _ h => h) (Or.inl ⟨by kernel_rfl, ?_⟩) hH ?_
      rotate_left 1
      · intro wq hq; have b0 : wq.cell? ⟨w.heap.size + 1, 0, none⟩ = some (.int .u8 (byteAt l 0)) := hq.1.cell (i := 0) (by decide); have b1 : wq.cell? ⟨w.heap.size + 1, 1, none⟩ = some (.int .u8 (byteAt l 1)) := hq.1.cell (i := 1) (by decide); clear hq; first | (go_simp; done) | (go_simp; with_reducible rfl)
      simp only [Act.put, List.setIfInBounds_toArray, List.set_cons_zero, List.set_cons_succ]
      refine wpAnyH_take (i := 11) (oi := ⟨some 25, _, _, _, _, _⟩) (v := ?_) rfl (by kernel_rfl) (by kernel_rfl) (by kernel_rfl) (fun _ _ _ h => h) (Or.inl ⟨by kernel_rfl, ?_⟩) hH ?_
      rotate_left 1
      · intro wq hq; have b0 : wq.cell? ⟨w.heap.size + 1, 0, none⟩ = some (.int .u8 (byteAt l 0)) := hq.1.cell (i := 0) (by decide); have b1 : wq.cell? ⟨w.heap.size + 1, 1, none⟩ = some (.int .u8 (byteAt l 1)) := hq.1.cell (i := 1) (by decide); clear hq; first | (go_simp; done) | (go_simp; with_reducible rfl)
      simp only [Act.put, List.setIfInBounds_toArray, List.set_cons_zero, List.set_cons_succ]
      refine wpAnyH_take (i := 12) (oi := ⟨some 26, _, _, _, _, _⟩) (v := ?_) rfl (by kernel_rfl) (by kernel_rfl) (by kernel_rfl) (fun _ _ _ h => h) (Or.inl ⟨by kernel_rfl, ?_⟩) hH ?_
      rotate_left 1
      · intro wq hq; have b0 : wq.cell? ⟨w.heap.size + 1, 0, none⟩ = some (.int .u8 (byteAt l 0)) := hq.1.cell (i := 0) (by decide); have b1 : wq.cell? ⟨w.heap.size + 1, 1, none⟩ = some (.int .u8 (byteAt l 1)) := hq.1.cell (i := 1) (by decide); clear hq; first | (go_simp; done) | (go_simp; with_reducible rfl)
      simp only [Act.put, List.setIfInBounds_toArray, List.set_cons_zero, List.set_cons_succ]
      refine wpAnyH_ready (rs := [13, 15]) (by kernel_rfl) (by simp) (AllReadyH.cons (o := ⟨some 27, _, _, _, _, _⟩) rfl (fun K hK => ?_) (AllReadyH.cons (o := ⟨some 6, _, _, _, _, _⟩) rfl (fun K hK => ?_) (AllReadyH.nil)))
      · go_simp
        refine (head_word hH HB.out _).mono ?_
        rintro e w1 ⟨rfl, rfl⟩
        go_wp2_with fail
        refine hK.out _ _ hH (fun hH => ?_)
        clear hK K
        try simp only [Act.put, List.setIfInBounds_toArray, List.set_cons_zero, List.set_cons_succ]
        refine wpAnyH_take (i := 14) (oi := ⟨some 28, _, _, _, _, _⟩) (v := ?_) rfl (by kernel_rfl) (by kernel_rfl) (by kernel_rfl) (fun _ _ _ h => h) (Or.inl ⟨by kernel_rfl, ?_⟩) hH ?_
        rotate_left 1
        · intro wq hq; have b0 : wq.cell? ⟨w.heap.size + 1, 0, none⟩ = some (.int .u8 (byteAt l 0)) := hq.1.cell (i := 0) (by decide); have b1 : wq.cell? ⟨w.heap.size + 1, 1, none⟩ = some (.int .u8 (byteAt l 1)) := hq.1.cell (i := 1) (by decide); clear hq; first | (go_simp; done) | (go_simp; with_reducible rfl)
        simp only [Act.put, List.setIfInBounds_toArray, List.set_cons_zero, List.set_cons_succ]
        refine wpAnyH_ready (rs := [15]) (by kernel_rfl) (by simp) (AllReadyH.cons (o := ⟨some 6, _, _, _, _, _⟩) rfl (fun K hK => ?_) (AllReadyH.nil))
        go_simp
        refine hK.out _ _ (by first | exact HeadIs.drew (HH.out.alloc _) | exact hH.alloc _) (fun hH => ?_)
        clear hK K
        try simp only [Act.put, List.setIfInBounds_toArray, List.set_cons_zero, List.set_cons_succ]
        refine wpAnyH_ready (rs := [16]) (by kernel_rfl) (by simp) (AllReadyH.cons (o := ⟨none, _, _, _, _, _⟩) rfl (fun K hK => ?_) (AllReadyH.nil))
        go_simp
        refine hK.out _ _ (HeadIs.drew (HH.out.alloc _)) (fun hH => ?_)
        clear hK K
        try simp only [Act.put, List.setIfInBounds_toArray, List.set_cons_zero, List.set_cons_succ]
        refine wpAnyH_done (by kernel_rfl) ?_ _
        clear hH
        go_wp2_with fail
        go_meet
        exact ⟨w1.heap.size, rfl, HH.out.2.2.1, blk_alloc _ _, HeadIs.drew (HH.out.alloc _)⟩
      · go_simp
        refine hK.out _ _ (by first | exact HeadIs.drew (HH.out.alloc _) | exact hH.alloc _) (fun hH => ?_)
        clear hK K
        try simp only [Act.put, List.setIfInBounds_toArray, List.set_cons_zero, List.set_cons_succ]
        refine wpAnyH_ready (rs := [13]) (by kernel_rfl) (by simp) (AllReadyH.cons (o := ⟨some 27, _, _, _, _, _⟩) rfl (fun K hK => ?_) (AllReadyH.nil))
        go_simp
        refine (head_word hH HB.out _).mono ?_
        rintro e w1 ⟨rfl, rfl⟩
        go_wp2_with fail
        refine hK.out _ _ hH (fun hH => ?_)
        clear hK K
        try simp only [Act.put, List.setIfInBounds_toArray, List.set_cons_zero, List.set_cons_succ]
        refine wpAnyH_take (i := 14) (oi := ⟨some 28, _, _, _, _, _⟩) (v := ?_) rfl (by kernel_rfl) (by kernel_rfl) (by kernel_rfl) (fun _ _ _ h => h) (Or.inl ⟨by kernel_rfl, ?_⟩) hH ?_
        rotate_left 1
        · intro wq hq; have b0 : wq.cell? ⟨w.heap.size + 1, 0, none⟩ = some (.int .u8 (byteAt l 0)) := hq.1.cell (i := 0) (by decide); have b1 : wq.cell? ⟨w.heap.size + 1, 1, none⟩ = some (.int .u8 (byteAt l 1)) := hq.1.cell (i := 1) (by decide); clear hq; first | (go_simp; done) | (go_simp; with_reducible rfl)
        simp only [Act.put, List.setIfInBounds_toArray, List.set_cons_zero, List.set_cons_succ]
        refine wpAnyH_ready (rs := [16]) (by kernel_rfl) (by simp) (AllReadyH.cons (o := ⟨none, _, _, _, _, _⟩) rfl (fun K hK => ?_) (AllReadyH.nil))
        go_simp
        refine hK.out _ _ (HeadIs.drew (HH.out.alloc _)) (fun hH => ?_)
        clear hK K
        try simp only [Act.put, List.setIfInBounds_toArray, List.set_cons_zero, List.set_cons_succ]
        refine wpAnyH_done (by kernel_rfl) ?_ _
        clear hH
        go_wp2_with fail
        go_meet
        exact ⟨w1.heap.size, rfl, HH.out.2.2.1, blk_alloc _ _, HeadIs.drew (HH.out.alloc _)⟩
  case rest =>
    have HC := Lib.hid hcut
    clear hcut HH
    obtain ⟨q, rfl, hq1, hq2, hq3⟩ := HC.out
    have Q1 := Lib.hid hq1; have Q2 := Lib.hid hq2; have Q3 := Lib.hid hq3
    clear hq1 hq2 hq3 HC
    go_wp2_with fail
    go_cut [7] (fun s7 wx => s7 = .int .i64 (imgLen l) ∧ SetIs w l (.pointer (some ⟨q, 0, none⟩)) wx)
    case first =>
      as_aux_lemma =>
        have k10 : (byteAt l 10 : Int) < 256 := by have := byteAt_lt HB.out 10; omega
        have k11 : (byteAt l 11 : Int) < 256 := by have := byteAt_lt HB.out 11; omega
        have b0 : wc.cell? ⟨w.heap.size + 1, 10, none⟩ = some (.int .u8 (byteAt l 10)) := Q3.out.1.cell (i := 10) (by decide)
        have b1 : wc.cell? ⟨w.heap.size + 1, 11, none⟩ = some (.int .u8 (byteAt l 11)) := Q3.out.1.cell (i := 11) (by decide)
        have HLN := HN.out
        by_cases h12 : (m : Int) ≤ 12
        · go_quiet (fail)
          go_wp2_with fail
          all_goals
            go_meet
            refine ⟨congrArg (Value.int .i64) (by unfold imgLen; rw [HLN]; omega), q, rfl, Q1.out, Q2.out, Q3.out.drewN _⟩
        · go_quiet (fail)
          go_wp2_with fail
          all_goals
            go_meet
            refine ⟨congrArg (Value.int .i64) (by unfold imgLen; rw [HLN]; omega), q, rfl, Q1.out, Q2.out, Q3.out.drewN _⟩
    case rest =>
      clear Q2 Q3
      obtain ⟨rfl, hS⟩ := hcut
      obtain ⟨q', hq, hq9, hq2, hq3⟩ := hS
      have hqq : q' = q := by injection hq with hq; injection hq with hq; injection hq with hq; exact hq.symm
      rw [hqq] at hq2
      have Q2 := Lib.hid hq2; have Q3 := Lib.hid hq3
      clear hq hqq hq2 hq3 hq9 q'
      obtain ⟨wd, rfl⟩ : ∃ x : World, x = wc := ⟨_, rfl⟩
      have hil : (imgLen l : Int) ≤ m := by have := HN.out; unfold imgLen; omega
      have hone : Hid (∀ u ∈ (imgOf l).map (Value.int .u8), u.oneCell' = true) := by intro u hu; simp at hu; obtain ⟨_, _, rfl⟩ := hu; rfl
      have HI := Lib.hid (isB_below H.out HL.out Q3.out.2.1)
      go_wp2_with fail
      refine (ref_take_img a m c l _ HI.out (fun b o s e => Nat.lt_of_lt_of_le (HL.out b o s e) Q3.out.2.1.size) hm (imgLen l) hil).mono ?_
      rintro e w2 ⟨rfl, hr, hbl⟩
      have R2 := Lib.hid hr; have B2 := Lib.hid hbl
      have SR := Lib.hid (row_src HB.out hr)
      have HZ := Lib.hid (Nat.le_trans Q3.out.2.2.1 hbl.size)
      clear hr hbl
      go_upto_region 5 with (at_builtin; refine wpList_app rfl _ _ 22 rfl (w.heap.size + 2) 5 (.int .u8 0) 1 Tryd.underlying22 A_info5 rfl (.slice none 0 0) 0 [] rfl (World.ownsRow_nil _ _ _ _) (some ⟨wd.heap.size, 0, none⟩) (imgLen l) (imgLen l) ((imgOf l).map (Value.int .u8)) rfl SR.out hone.out (by omega) (by unfold maxLen; omega) HZ.out ?_; intro v' w3 hown hg _; have HO := Lib.hid hown; have HG := Lib.hid hg; clear hown hg)
      have hb3 : Below w2.heap.size w2 w3 := (Below.refl _ _).grown HG.out (Nat.le_refl _) (by intro k hk; cases hk)
      have hbd3 : Below wd.heap.size wd w3 := B2.out.trans (hb3.mono B2.out.size)
      have HR3 : Hid (ImgR w l q v' w3) := ⟨Q1.out, (hbd3.block q (blk_lt Q2.out)).trans Q2.out, Q3.out.below hbd3, by have := HO.out; simpa using this⟩
      have HI3 := Lib.hid (isB_below HI.out (fun b o s e => Nat.lt_of_lt_of_le (HL.out b o s e) Q3.out.2.1.size) hbd3)
      have HL3 : Hid (∀ b o s, a = some ⟨b, o, s⟩ → b < w3.heap.size) := fun b o s e => Nat.lt_of_lt_of_le (HL.out b o s e) (Nat.le_trans Q3.out.2.1.size hbd3.size)
      have HA := Lib.hid (show inpN l = min 4096 ((m - (12 + imgLen l)) / 3) by unfold inpN; rw [HN.out])
      clear hb3 hbd3 R2 B2 SR HZ HO HG Q2 Q3 HI
      have wa : IntKind.i64.wrap (12 + (imgLen l : Int)) = 12 + (imgLen l : Int) := IntWalk.i64_in _ (by omega)
      go_wp2_with fail
      go_loopw [9, 10] (fun v i wr => ∃ j : Nat, j ≤ inpN l ∧ i = .int .i64 (12 + imgLen l + 3 * j : Nat) ∧ wr.ownsRow w3.heap.size 34 4 v j ((inpTo l j).flatMap Inp.vals) ∧ Below w3.heap.size w3 wr) (fun v _ _ => 4096 - slLen v)
      case atStart => exact ⟨0, Nat.zero_le _, by simp, World.ownsRow_nil _ _ _ _, Below.refl _ _⟩
      case round =>
        obtain ⟨j, hj, rfl, hown, hB⟩ := hrel
        obtain ⟨ad, cc, rfl⟩ := own_slice hown
        have HW := Lib.hid hown; have B0 := Lib.hid hB
        clear hown hB
        obtain ⟨p, hp⟩ : ∃ p, p = 12 + imgLen l + 3 * j := ⟨_, rfl⟩
        rw [← hp]
        have HP := Lib.hid hp
        have HJ := Lib.hid hj
        clear hp hj
        by_cases h3 : (p : Int) + 3 ≤ m
        · have hj4 : (j : Int) ≤ 4096 := by have := HA.out; have := HJ.out; omega
          by_cases h4 : (j : Int) < 4096
          · clear hj4
            obtain ⟨x, hx⟩ : ∃ x, x = byteAt l p := ⟨_, rfl⟩
            obtain ⟨y, hy⟩ : ∃ y, y = byteAt l (p + 1) := ⟨_, rfl⟩
            obtain ⟨z, hz⟩ : ∃ z, z = byteAt l (p + 2) := ⟨_, rfl⟩
            have hx9 : (x : Int) < 256 := by rw [hx]; have := byteAt_lt HB.out p; omega
            have hy9 : (y : Int) < 256 := by rw [hy]; have := byteAt_lt HB.out (p + 1); omega
            have hz9 : (z : Int) < 256 := by rw [hz]; have := byteAt_lt HB.out (p + 2); omega
            obtain ⟨b, o, rfl, cx, cy, cz, hbl⟩ : ∃ b o, a = some ⟨b, o, none⟩ ∧ Hid (∀ W, Below w3.heap.size w3 W → W.cell? ⟨b, o + p, none⟩ = some (.int .u8 x)) ∧ Hid (∀ W, Below w3.heap.size w3 W → W.cell? ⟨b, o + (p + 1), none⟩ = some (.int .u8 y)) ∧ Hid (∀ W, Below w3.heap.size w3 W → W.cell? ⟨b, o + (p + 2), none⟩ = some (.int .u8 z)) ∧ Hid (b < w3.heap.size) := by
              rcases HI3.out.cell with ⟨_, h0⟩ | ⟨b, o, rfl, h⟩
              · omega
              · have hlb := HL3.out b o none rfl
                have cell : ∀ k v, k < m → v = byteAt l k → ∀ W, Below w3.heap.size w3 W → W.cell? ⟨b, o + k, none⟩ = some (.int .u8 (v : Nat)) := fun k v hk hv W hW => by
                  rw [hW.cell (p := ⟨b, o + k, none⟩) hlb, h k hk, hv]
                  have := HB.out (l.getD k 0) (by have := HN.out; simp [List.getD, show k < l.length by omega])
                  unfold byteAt
                  rw [Int.toNat_of_nonneg this.1]
                exact ⟨b, o, rfl, cell p x (by omega) hx, cell (p + 1) y (by omega) hy, cell (p + 2) z (by omega) hz, hlb⟩
            have hI : Hid (∀ d : Int, d = (if x % 2 = 0 then -1 else (y : Int)) → inpAt l j = ⟨(x &&& 126 : Nat), d, (z : Int) % 16 * 2, (z : Int) / 16⟩) := fun d hd => by
              unfold inpAt; simp only [hx, hy, hz, hd, HP.out]
            clear hx hy hz
            have wp1 : IntKind.i64.wrap ((p : Int) + 1) = p + 1 := IntWalk.i64_in _ (by omega)
            have wp2 : IntKind.i64.wrap ((p : Int) + 2) = p + 2 := IntWalk.i64_in _ (by omega)
            have tp1 : ((p : Int) + 1).toNat = p + 1 := by omega
            have tp2 : ((p : Int) + 2).toNat = p + 2 := by omega
            obtain ⟨a126, ha⟩ : ∃ a, a = x &&& 126 := ⟨_, rfl⟩
            have hb126 : bits .and .u8 (x : Int) 126 = (a126 : Int) := by rw [ha]; exact u8_and_nat x 126 (by omega) (by omega)
            have ha9 : (a126 : Int) ≤ 126 := by rw [ha]; have : x &&& 126 ≤ 126 := Nat.and_le_right; omega
            rw [← ha] at hI
            clear ha
            go_upto_region 9 with fail
            have hpm : p < m := by omega
            have hpm1 : p + 1 < m := by omega
            have hpm2 : p + 2 < m := by omega
            have hpi0 : 0 ≤ (p : Int) + 1 := by omega
            have hpi9 : 0 ≤ (p : Int) + 2 := by omega
            have hpi1 : (p : Int) + 1 < m := by omega
            have hpi2 : (p : Int) + 2 < m := by omega
            have we1 : IntKind.i64.wrap (a126 : Int) = a126 := IntWalk.i64_in _ (by omega)
            have we2 : (z : Int).tmod 16 = (z : Int) % 16 := Int.tmod_eq_emod_of_nonneg (by omega)
            have we3 : IntKind.i64.wrap ((z : Int) % 16) = (z : Int) % 16 := IntWalk.i64_in _ (by omega)
            have we4 : IntKind.i64.wrap ((z : Int) % 16 * 2) = (z : Int) % 16 * 2 := IntWalk.i64_in _ (by omega)
            have we5 : (z : Int).tdiv 16 = (z : Int) / 16 := Int.tdiv_eq_ediv_of_nonneg (by omega)
            have we6 : IntKind.u8.wrap ((z : Int) / 16) = (z : Int) / 16 := by rw [IntKind.wrap_u8]; omega
            have we7 : IntKind.i64.wrap ((z : Int) / 16) = (z : Int) / 16 := IntWalk.i64_in _ (by omega)
            go_cut [11] (fun s11 wx => ∃ r, s11 = .pointer (some ⟨r, 0, none⟩) ∧ Hid (wx.heap[r]? = some (.cells #[.int .i64 (a126 : Int), .int .i64 (-1), .int .i64 ((z : Int) % 16 * 2), .int .i64 ((z : Int) / 16)] 34 (0, 0))) ∧ Hid (wr.heap.size ≤ r) ∧ Hid (Below wr.heap.size wr wx))
            case first =>
              as_aux_lemma =>
                refine wp_region_held_drew (S := fun wq => Below w3.heap.size w3 wq) (by kernel_rfl) B0.out.drew (fun hH => ?_)
                refine wpAnyH_take (i := 0) (oi := ⟨some 62, _, _, _, _, _⟩) (v := ?_) rfl (by kernel_rfl) (by kernel_rfl) (by kernel_rfl) (fun _ _ _ h => h) (Or.inl ⟨by kernel_rfl, ?_⟩) hH ?_
                rotate_left 1
                · intro wq hq; have c0 := cx.out wq hq; have c1 := cz.out wq hq; clear hq; first | (go_simp; done) | (go_simp; with_reducible rfl)
                simp only [Act.put, List.setIfInBounds_toArray, List.set_cons_zero, List.set_cons_succ]
                refine wpAnyH_take (i := 1) (oi := ⟨some 63, _, _, _, _, _⟩) (v := ?_) rfl (by kernel_rfl) (by kernel_rfl) (by kernel_rfl) (fun _ _ _ h => h) (Or.inl ⟨by kernel_rfl, ?_⟩) hH ?_
                rotate_left 1
                · intro wq hq; have c0 := cx.out wq hq; have c1 := cz.out wq hq; clear hq; first | (go_simp; done) | (go_simp; with_reducible rfl)
                simp only [Act.put, List.setIfInBounds_toArray, List.set_cons_zero, List.set_cons_succ]
                refine wpAnyH_take (i := 2) (oi := ⟨some 64, _, _, _, _, _⟩) (v := ?_) rfl (by kernel_rfl) (by kernel_rfl) (by kernel_rfl) (fun _ _ _ h => h) (Or.inl ⟨by kernel_rfl, ?_⟩) hH ?_
                rotate_left 1
                · intro wq hq; have c0 := cx.out wq hq; have c1 := cz.out wq hq; clear hq; first | (go_simp; done) | (go_simp; with_reducible rfl)
                simp only [Act.put, List.setIfInBounds_toArray, List.set_cons_zero, List.set_cons_succ]
                refine wpAnyH_take (i := 3) (oi := ⟨some 65, _, _, _, _, _⟩) (v := ?_) rfl (by kernel_rfl) (by kernel_rfl) (by kernel_rfl) (fun _ _ _ h => h) (Or.inl ⟨by kernel_rfl, ?_⟩) hH ?_
                rotate_left 1
                · intro wq hq; have c0 := cx.out wq hq; have c1 := cz.out wq hq; clear hq; first | (go_simp; done) | (go_simp; with_reducible rfl)
                simp only [Act.put, List.setIfInBounds_toArray, List.set_cons_zero, List.set_cons_succ]
                refine wpAnyH_take (i := 4) (oi := ⟨some 66, _, _, _, _, _⟩) (v := ?_) rfl (by kernel_rfl) (by kernel_rfl) (by kernel_rfl) (fun _ _ _ h => h) (Or.inl ⟨by kernel_rfl, ?_⟩) hH ?_
                rotate_left 1
                · intro wq hq; have c0 := cx.out wq hq; have c1 := cz.out wq hq; clear hq; first | (go_simp; done) | (go_simp; with_reducible rfl)
                simp only [Act.put, List.setIfInBounds_toArray, List.set_cons_zero, List.set_cons_succ]
                refine wpAnyH_take (i := 5) (oi := ⟨some 67, _, _, _, _, _⟩) (v := ?_) rfl (by kernel_rfl) (by kernel_rfl) (by kernel_rfl) (fun _ _ _ h => h) (Or.inl ⟨by kernel_rfl, ?_⟩) hH ?_
                rotate_left 1
                · intro wq hq; have c0 := cx.out wq hq; have c1 := cz.out wq hq; clear hq; first | (go_simp; done) | (go_simp; with_reducible rfl)
                simp only [Act.put, List.setIfInBounds_toArray, List.set_cons_zero, List.set_cons_succ]
                refine wpAnyH_take (i := 6) (oi := ⟨some 68, _, _, _, _, _⟩) (v := ?_) rfl (by kernel_rfl) (by kernel_rfl) (by kernel_rfl) (fun _ _ _ h => h) (Or.inl ⟨by kernel_rfl, ?_⟩) hH ?_
                rotate_left 1
                · intro wq hq; have c0 := cx.out wq hq; have c1 := cz.out wq hq; clear hq; first | (go_simp; done) | (go_simp; with_reducible rfl)
                simp only [Act.put, List.setIfInBounds_toArray, List.set_cons_zero, List.set_cons_succ]
                refine wpAnyH_take (i := 7) (oi := ⟨some 69, _, _, _, _, _⟩) (v := ?_) rfl (by kernel_rfl) (by kernel_rfl) (by kernel_rfl) (fun _ _ _ h => h) (Or.inl ⟨by kernel_rfl, ?_⟩) hH ?_
                rotate_left 1
                · intro wq hq; have c0 := cx.out wq hq; have c1 := cz.out wq hq; clear hq; first | (go_simp; done) | (go_simp; with_reducible rfl)
                simp only [Act.put, List.setIfInBounds_toArray, List.set_cons_zero, List.set_cons_succ]
                refine wpAnyH_take (i := 8) (oi := ⟨some 70, _, _, _, _, _⟩) (v := ?_) rfl (by kernel_rfl) (by kernel_rfl) (by kernel_rfl) (fun _ _ _ h => h) (Or.inl ⟨by kernel_rfl, ?_⟩) hH ?_
                rotate_left 1
                · intro wq hq; have c0 := cx.out wq hq; have c1 := cz.out wq hq; clear hq; first | (go_simp; done) | (go_simp; with_reducible rfl)
                simp only [Act.put, List.setIfInBounds_toArray, List.set_cons_zero, List.set_cons_succ]
                refine wpAnyH_take (i := 9) (oi := ⟨some 71, _, _, _, _, _⟩) (v := ?_) rfl (by kernel_rfl) (by kernel_rfl) (by kernel_rfl) (fun _ _ _ h => h) (Or.inl ⟨by kernel_rfl, ?_⟩) hH ?_
                rotate_left 1
                · intro wq hq; have c0 := cx.out wq hq; have c1 := cz.out wq hq; clear hq; first | (go_simp; done) | (go_simp; with_reducible rfl)
                simp only [Act.put, List.setIfInBounds_toArray, List.set_cons_zero, List.set_cons_succ]
                refine wpAnyH_take (i := 10) (oi := ⟨some 72, _, _, _, _, _⟩) (v := ?_) rfl (by kernel_rfl) (by kernel_rfl) (by kernel_rfl) (fun _ _ _ h => h) (Or.inl ⟨by kernel_rfl, ?_⟩) hH ?_
                rotate_left 1
                · intro wq hq; have c0 := cx.out wq hq; have c1 := cz.out wq hq; clear hq; first | (go_simp; done) | (go_simp; with_reducible rfl)
                simp only [Act.put, List.setIfInBounds_toArray, List.set_cons_zero, List.set_cons_succ]
                refine wpAnyH_take (i := 11) (oi := ⟨some 73, _, _, _, _, _⟩) (v := ?_) rfl (by kernel_rfl) (by kernel_rfl) (by kernel_rfl) (fun _ _ _ h => h) (Or.inl ⟨by kernel_rfl, ?_⟩) hH ?_
                rotate_left 1
                · intro wq hq; have c0 := cx.out wq hq; have c1 := cz.out wq hq; clear hq; first | (go_simp; done) | (go_simp; with_reducible rfl)
                simp only [Act.put, List.setIfInBounds_toArray, List.set_cons_zero, List.set_cons_succ]
                refine wpAnyH_take (i := 12) (oi := ⟨some 74, _, _, _, _, _⟩) (v := ?_) rfl (by kernel_rfl) (by kernel_rfl) (by kernel_rfl) (fun _ _ _ h => h) (Or.inl ⟨by kernel_rfl, ?_⟩) hH ?_
                rotate_left 1
                · intro wq hq; have c0 := cx.out wq hq; have c1 := cz.out wq hq; clear hq; first | (go_simp; done) | (go_simp; with_reducible rfl)
                simp only [Act.put, List.setIfInBounds_toArray, List.set_cons_zero, List.set_cons_succ]
                refine wpAnyH_take (i := 13) (oi := ⟨some 75, _, _, _, _, _⟩) (v := ?_) rfl (by kernel_rfl) (by kernel_rfl) (by kernel_rfl) (fun _ _ _ h => h) (Or.inl ⟨by kernel_rfl, ?_⟩) hH ?_
                rotate_left 1
                · intro wq hq; have c0 := cx.out wq hq; have c1 := cz.out wq hq; clear hq; first | (go_simp; done) | (go_simp; with_reducible rfl)
                simp only [Act.put, List.setIfInBounds_toArray, List.set_cons_zero, List.set_cons_succ]
                refine wpAnyH_take (i := 14) (oi := ⟨some 76, _, _, _, _, _⟩) (v := ?_) rfl (by kernel_rfl) (by kernel_rfl) (by kernel_rfl) (fun _ _ _ h => h) (Or.inl ⟨by kernel_rfl, ?_⟩) hH ?_
                rotate_left 1
                · intro wq hq; have c0 := cx.out wq hq; have c1 := cz.out wq hq; clear hq; first | (go_simp; done) | (go_simp; with_reducible rfl)
                simp only [Act.put, List.setIfInBounds_toArray, List.set_cons_zero, List.set_cons_succ]
                refine wpAnyH_take (i := 15) (oi := ⟨some 77, _, _, _, _, _⟩) (v := ?_) rfl (by kernel_rfl) (by kernel_rfl) (by kernel_rfl) (fun _ _ _ h => h) (Or.inl ⟨by kernel_rfl, ?_⟩) hH ?_
                rotate_left 1
                · intro wq hq; have c0 := cx.out wq hq; have c1 := cz.out wq hq; clear hq; first | (go_simp; done) | (go_simp; with_reducible rfl)
                simp only [Act.put, List.setIfInBounds_toArray, List.set_cons_zero, List.set_cons_succ]
                refine wpAnyH_take (i := 16) (oi := ⟨some 78, _, _, _, _, _⟩) (v := ?_) rfl (by kernel_rfl) (by kernel_rfl) (by kernel_rfl) (fun _ _ _ h => h) (Or.inl ⟨by kernel_rfl, ?_⟩) hH ?_
                rotate_left 1
                · intro wq hq; have c0 := cx.out wq hq; have c1 := cz.out wq hq; clear hq; first | (go_simp; done) | (go_simp; with_reducible rfl)
                simp only [Act.put, List.setIfInBounds_toArray, List.set_cons_zero, List.set_cons_succ]
                refine wpAnyH_take (i := 17) (oi := ⟨some 79, _, _, _, _, _⟩) (v := ?_) rfl (by kernel_rfl) (by kernel_rfl) (by kernel_rfl) (fun _ _ _ h => h) (Or.inl ⟨by kernel_rfl, ?_⟩) hH ?_
                rotate_left 1
                · intro wq hq; have c0 := cx.out wq hq; have c1 := cz.out wq hq; clear hq; first | (go_simp; done) | (go_simp; with_reducible rfl)
                simp only [Act.put, List.setIfInBounds_toArray, List.set_cons_zero, List.set_cons_succ]
                refine wpAnyH_take (i := 18) (oi := ⟨some 80, _, _, _, _, _⟩) (v := ?_) rfl (by kernel_rfl) (by kernel_rfl) (by kernel_rfl) (fun _ _ _ h => h) (Or.inl ⟨by kernel_rfl, ?_⟩) hH ?_
                rotate_left 1
                · intro wq hq; have c0 := cx.out wq hq; have c1 := cz.out wq hq; clear hq; first | (go_simp; done) | (go_simp; with_reducible rfl)
                simp only [Act.put, List.setIfInBounds_toArray, List.set_cons_zero, List.set_cons_succ]
                refine wpAnyH_take (i := 19) (oi := ⟨some 81, _, _, _, _, _⟩) (v := ?_) rfl (by kernel_rfl) (by kernel_rfl) (by kernel_rfl) (fun _ _ _ h => h) (Or.inl ⟨by kernel_rfl, ?_⟩) hH ?_
                rotate_left 1
                · intro wq hq; have c0 := cx.out wq hq; have c1 := cz.out wq hq; clear hq; first | (go_simp; done) | (go_simp; with_reducible rfl)
                simp only [Act.put, List.setIfInBounds_toArray, List.set_cons_zero, List.set_cons_succ]
                refine wpAnyH_take (i := 20) (oi := ⟨some 82, _, _, _, _, _⟩) (v := ?_) rfl (by kernel_rfl) (by kernel_rfl) (by kernel_rfl) (fun _ _ _ h => h) (Or.inl ⟨by kernel_rfl, ?_⟩) hH ?_
                rotate_left 1
                · intro wq hq; have c0 := cx.out wq hq; have c1 := cz.out wq hq; clear hq; first | (go_simp; done) | (go_simp; with_reducible rfl)
                simp only [Act.put, List.setIfInBounds_toArray, List.set_cons_zero, List.set_cons_succ]
                refine wpAnyH_take (i := 21) (oi := ⟨some 83, _, _, _, _, _⟩) (v := ?_) rfl (by kernel_rfl) (by kernel_rfl) (by kernel_rfl) (fun _ _ _ h => h) (Or.inl ⟨by kernel_rfl, ?_⟩) hH ?_
                rotate_left 1
                · intro wq hq; have c0 := cx.out wq hq; have c1 := cz.out wq hq; clear hq; first | (go_simp; done) | (go_simp; with_reducible rfl)
                simp only [Act.put, List.setIfInBounds_toArray, List.set_cons_zero, List.set_cons_succ]
                refine wpAnyH_ready (rs := [22]) (by kernel_rfl) (by simp) (AllReadyH.cons (o := ⟨some 11, _, _, _, _, _⟩) rfl (fun K hK => ?_) (AllReadyH.nil))
                go_simp
                refine hK.out _ _ (B0.out.alloc B0.out.size _).drew (fun hH => ?_)
                clear hK K
                try simp only [Act.put, List.setIfInBounds_toArray, List.set_cons_zero, List.set_cons_succ]
                refine wpAnyH_ready (rs := [23]) (by kernel_rfl) (by simp) (AllReadyH.cons (o := ⟨none, _, _, _, _, _⟩) rfl (fun K hK => ?_) (AllReadyH.nil))
                go_simp
                refine hK.out _ _ (B0.out.alloc B0.out.size _).drew (fun hH => ?_)
                clear hK K
                try simp only [Act.put, List.setIfInBounds_toArray, List.set_cons_zero, List.set_cons_succ]
                refine wpAnyH_done (by kernel_rfl) ?_ _
                clear hH
                go_wp2_with fail
                go_meet
                exact ⟨wr.heap.size, rfl, blk_alloc _ _, Nat.le_refl _, ((Below.refl _ _).alloc (Nat.le_refl _) _).drew⟩
            case rest =>
              obtain ⟨r, rfl, hr1, hr2, hr3⟩ := hcut
              have hone : ∀ d : Int, Hid (∀ u ∈ [Value.int .i64 (a126 : Int), Value.int .i64 d, Value.int .i64 ((z : Int) % 16 * 2), Value.int .i64 ((z : Int) / 16)], u.oneCell' = true) := fun d u hu => by simp at hu; rcases hu with rfl | rfl | rfl | rfl <;> rfl
              have hbx : Below w3.heap.size w3 wc := B0.out.trans (hr3.out.mono B0.out.size)
              have c0 := cx.out wc hbx
              have c1 := cy.out wc hbx
              have i0 := blk_cell hr1.out 0; have i1 := blk_cell hr1.out 1; have i2 := blk_cell hr1.out 2; have i3 := blk_cell hr1.out 3; have f1 := blk_frozen hr1.out 1
              simp at i0 i1 i2 i3
              have hb1 : bits .and .u8 (x : Int) 1 = ((x % 2 : Nat) : Int) := by rw [← Nat.and_one_is_mod]; exact u8_and_nat x 1 (by omega) (by omega)
              clear hbx
              by_cases h2 : x % 2 = 0
              · as_aux_lemma =>
                rw [h2] at hb1
                have HI4 := Lib.hid (hI.out (-1) (by rw [if_pos h2]))
                have HB9 := hr3
                have hone4 := hone (-1)
                clear hI h2 hone
                have W9 := Lib.hid (own_below HW.out HB9.out)
                have hj47 := Lib.hid (show (j + 1) * 32 ≤ 140737488355328 by omega)
                have hj63 := Lib.hid (show j + 1 ≤ maxLen by unfold maxLen; omega)
                have hz9 := Lib.hid (Nat.le_trans B0.out.size HB9.out.size)
                go_wp2_with (at_builtin; refine wpList_app_new rfl _ _ 27 rfl w3.heap.size 34 _ 4 32 Tryd.underlying27 A_infoInp rfl (by decide) (.slice ad j cc) j _ rfl W9.out rfl rfl hone4.out hj63.out hj47.out hz9.out ?_; intro v4 w4 hown hg; have HO4 := Lib.hid hown; have HG4 := Lib.hid hg; clear hown hg)
                go_roundw
                case rel =>
                  refine ⟨j + 1, by have := HA.out; have := HJ.out; have := HP.out; omega, ?_, ?_, ?_⟩
                  · rw [HP.out]; exact congrArg (Value.int .i64) (by omega)
                  · rw [inpTo_snoc, HI4.out]; exact HO4.out
                  · exact own_base (W9.out.alloc _) HG4.out ((B0.out.trans (HB9.out.mono B0.out.size)).alloc (Nat.le_trans B0.out.size HB9.out.size) _) (Nat.le_trans hz9.out ((Below.refl _ _).alloc (Nat.le_refl _) _).size) (Nat.le_refl _)
                case measure =>
                  obtain ⟨ad4, c4, rfl⟩ := own_slice HO4.out
                  simp only [slLen]; omega
              · as_aux_lemma =>
                rw [show x % 2 = 1 by omega] at hb1
                have HI4 := Lib.hid (hI.out y (by rw [if_neg h2]))
                have HB9 : Hid (Below wr.heap.size wr (wc.setCell ⟨r, 1, none⟩ (.int .i64 (y : Int)))) := hr3.out.setCell hr2.out _
                have hone4 := hone y
                clear hI h2 hone
                have W9 := Lib.hid (own_below HW.out HB9.out)
                have hq9 := Lib.hid (show wc.heap.size = (wc.setCell ⟨r, 1, none⟩ (.int .i64 (y : Int))).heap.size by simp)
                have hj47 := Lib.hid (show (j + 1) * 32 ≤ 140737488355328 by omega)
                have hj63 := Lib.hid (show j + 1 ≤ maxLen by unfold maxLen; omega)
                have hz9 := Lib.hid (Nat.le_trans B0.out.size HB9.out.size)
                go_wp2_with (at_builtin; refine wpList_app_newQ rfl _ _ 27 rfl w3.heap.size 34 _ 4 32 Tryd.underlying27 A_infoInp rfl (by decide) (.slice ad j cc) j _ rfl W9.out _ hq9.out rfl rfl hone4.out hj63.out hj47.out hz9.out ?_; intro v4 w4 hown hg; have HO4 := Lib.hid hown; have HG4 := Lib.hid hg; clear hown hg)
                go_roundw
                case rel =>
                  refine ⟨j + 1, by have := HA.out; have := HJ.out; have := HP.out; omega, ?_, ?_, ?_⟩
                  · rw [HP.out]; exact congrArg (Value.int .i64) (by omega)
                  · rw [inpTo_snoc, HI4.out]; exact HO4.out
                  · exact own_base (W9.out.alloc _) HG4.out ((B0.out.trans (HB9.out.mono B0.out.size)).alloc (Nat.le_trans B0.out.size HB9.out.size) _) (Nat.le_trans hz9.out ((Below.refl _ _).alloc (Nat.le_refl _) _).size) (Nat.le_refl _)
                case measure =>
                  obtain ⟨ad4, c4, rfl⟩ := own_slice HO4.out
                  simp only [slLen]; omega
          · have HJ2 := Lib.hid (show j = inpN l by have := HA.out; have := HJ.out; omega)
            have dC := (B0.out.block _ (blk_lt HR3.out.2.2.1.2.2.2)).trans HR3.out.2.2.1.2.2.2
            have dD := (B0.out.block _ (blk_lt HR3.out.2.1)).trans HR3.out.2.1
            unfold setupCells at dD
            have cc0 := blk_cell dC 0; have cc1 := blk_cell dC 1; have cc2 := blk_cell dC 2; have ff0 := blk_frozen dC 0; have ff1 := blk_frozen dC 1; have ff2 := blk_frozen dC 2
            have dd0 := blk_cell dD 0; have dd1 := blk_cell dD 1; have dd2 := blk_cell dD 2
            simp at cc0 cc1 cc2 dd0 dd1 dd2
            clear dC dD
            go_wp2_with fail
            exact bodyPost_ret (v := .tuple #[.agg #[.int .i64 (4 + (byteAt l 0 : Int) % 13), .int .i64 ((byteAt l 1 : Int) % 33), .int .u64 (wordN (fun i => byteAt l (2 + i)) 8 : Nat)], v', .slice ad j cc]) (by as_aux_lemma => simp [results, Tryd.results7, go_sem, cell_set, cc0, cc1, cc2]) rfl (ref_end HR3.out B0.out (by rw [← HJ2.out]; exact HW.out) _ _ _)
        · have HJ2 := Lib.hid (show j = inpN l by clear wr0 wr1 wr2 wt0 wt1 wa; have := HA.out; have := HJ.out; have := HP.out; omega)
          have hp4 : IntKind.i64.wrap ((p : Int) + 3) = p + 3 := IntWalk.i64_in _ (by have := HP.out; have := HJ.out; have := HA.out; omega)
          have hp5 : wrap64 ((p : Int) + 3) = p + 3 := by have := HP.out; have := HJ.out; have := HA.out; unfold wrap64; omega
          have dC := (B0.out.block _ (blk_lt HR3.out.2.2.1.2.2.2)).trans HR3.out.2.2.1.2.2.2
          have dD := (B0.out.block _ (blk_lt HR3.out.2.1)).trans HR3.out.2.1
          unfold setupCells at dD
          have cc0 := blk_cell dC 0; have cc1 := blk_cell dC 1; have cc2 := blk_cell dC 2; have ff0 := blk_frozen dC 0; have ff1 := blk_frozen dC 1; have ff2 := blk_frozen dC 2
          have dd0 := blk_cell dD 0; have dd1 := blk_cell dD 1; have dd2 := blk_cell dD 2
          simp at cc0 cc1 cc2 dd0 dd1 dd2
          clear dC dD
          go_wp2_with fail
          exact bodyPost_ret (v := .tuple #[.agg #[.int .i64 (4 + (byteAt l 0 : Int) % 13), .int .i64 ((byteAt l 1 : Int) % 33), .int .u64 (wordN (fun i => byteAt l (2 + i)) 8 : Nat)], v', .slice ad j cc]) (by as_aux_lemma => simp [results, Tryd.results7, go_sem, cell_set, cc0, cc1, cc2]) rfl (ref_end HR3.out B0.out (by rw [← HJ2.out]; exact HW.out) _ _ _)
end Go.Proofs.YtoiffpoffnlebaaDoor
end
section
set_option linter.unusedVariables false
set_option linter.unusedSimpArgs false
namespace Go.Proofs.YtoiffpoffnlebaaDoor
open Go.RowKit

/-- the cells of block g -/
def rowOf (w : World) (g : Nat) : Array Value := match w.heap[g]? with | some (.cells c _ _) => c | _ => #[]
/-- block g has n cells, none of them frozen -/
def rowIs (w : World) (g n : Nat) : Bool := match w.heap[g]? with | some (.cells c _ (lo, hi)) => c.size == n && lo == 0 && hi == 0 | _ => false
def loadS (t : TypeId) (x : Value) : Sem Value := Instr.loadAt t x
def storeS (t : TypeId) (x v : Value) : Sem Unit := Instr.storeAt t x v
theorem rowIs_of {w : World} {g : Nat} {C : Array Value} {t : TypeId} (h : w.heap[g]? = some (.cells C t (0, 0))) : rowIs w g C.size = true := by simp [rowIs, h]
theorem rowOf_of {w : World} {g : Nat} {C : Array Value} {t : TypeId} {fz : Nat × Nat} (h : w.heap[g]? = some (.cells C t fz)) : rowOf w g = C := by simp [rowOf, h]
theorem rowIs_elim {w : World} {g n : Nat} (h : rowIs w g n = true) : ∃ t, w.heap[g]? = some (.cells (rowOf w g) t (0, 0)) ∧ (rowOf w g).size = n := by
  unfold rowIs at h
  split at h
  · rename_i c t lo hi hh
    simp at h
    obtain ⟨⟨h1, h2⟩, h3⟩ := h
    subst h2 h3
    exact ⟨t, by rw [rowOf_of hh]; exact hh, by rw [rowOf_of hh]; exact h1⟩
  · cases h
theorem run_loadS (P : Program) (ty : TypeId) (d : TypeDesc) (n : Nat) (hu : P.underlying ty = some d) (hd : (match d with | .struct _ | .array _ _ => true | _ => false) = true) (hi : (P.info? ty).map (·.size) = some n)
    (w : World) (g : Nat) (h : rowIs w g n = true) : (loadS ty (.pointer (some ⟨g, 0, none⟩))).run P w = .ok (.agg (rowOf w g)) w := by
  obtain ⟨t, hh, hs⟩ := rowIs_elim h
  have := run_loadVar_row (P := P) w g t ty (rowOf w g) (0, 0) d hh hu hd (by rw [hs]; exact hi)
  simp only [loadS, Instr.loadAt, Instr.sureAddr, Sem.run_bind, Sem.run_pure, Result.andThen_ok, this]
theorem run_storeS (P : Program) (ty : TypeId) (n : Nat) (hi : (P.info? ty).map (·.size) = some n)
    (w : World) (g : Nat) (C : Array Value) (h : rowIs w g n = true) (hC : C.size = n) (h1 : C.all (·.oneCell') = true) : (storeS ty (.pointer (some ⟨g, 0, none⟩)) (.agg C)).run P w = .ok () (w.setRow g C) := by
  obtain ⟨t, hh, hs⟩ := rowIs_elim h
  have := run_storeVar_row (P := P) w g t ty (rowOf w g) C hh (by rw [hC]; exact hi) (by rw [hC]; exact hs) h1
  simp only [storeS, Instr.storeAt, Instr.sureAddr, Sem.run_bind, Sem.run_pure, Result.andThen_ok, this]

/-! what a world's steps do to rows -/
theorem row_alloc_new (w : World) (C : Array Value) (t : TypeId) (fz : Nat × Nat) : rowOf (w.alloc (.cells C t fz)) w.heap.size = C := rowOf_of (blk_alloc w _)
theorem row_alloc_old (w : World) (o : Obj) (g : Nat) (h : g < w.heap.size) : rowOf (w.alloc o) g = rowOf w g := by unfold rowOf; rw [blk_alloc_old w o g h]
theorem row_drew (w : World) (g : Nat) : rowOf w.drew g = rowOf w g := rfl
theorem row_drewN (w : World) (n g : Nat) : rowOf (w.drewN n) g = rowOf w g := rfl
theorem is_alloc_new (w : World) (C : Array Value) (t : TypeId) (n : Nat) : rowIs (w.alloc (.cells C t)) w.heap.size n = (C.size == n) := by unfold rowIs; rw [blk_alloc]; simp
theorem is_alloc_old (w : World) (o : Obj) (g n : Nat) (h : g < w.heap.size) : rowIs (w.alloc o) g n = rowIs w g n := by unfold rowIs; rw [blk_alloc_old w o g h]
theorem is_drew (w : World) (g n : Nat) : rowIs w.drew g n = rowIs w g n := rfl
theorem is_drewN (w : World) (k g n : Nat) : rowIs (w.drewN k) g n = rowIs w g n := rfl
theorem row_setCell (w : World) (b o : Nat) (v : Value) (g : Nat) : rowOf (w.setCell ⟨b, o, none⟩ v) g = if b = g then (rowOf w g).setIfInBounds o v else rowOf w g := by
  by_cases h : b = g
  · subst h
    rw [if_pos rfl]
    unfold rowOf
    simp only [World.setCell, Array.getElem?_modify, if_true]
    cases hh : w.heap[b]? with
    | none => simp
    | some ob => cases ob <;> simp
  · rw [if_neg h]
    unfold rowOf
    rw [blk_set_ne _ _ h]
theorem is_setCell (w : World) (a : Addr) (v : Value) (g n : Nat) : rowIs (w.setCell a v) g n = rowIs w g n := by
  by_cases h : a.block = g
  · subst h
    unfold rowIs
    simp only [World.setCell, Array.getElem?_modify, if_true]
    cases hh : w.heap[a.block]? with
    | none => simp
    | some ob => cases ob <;> simp; split <;> simp
  · unfold rowIs
    rw [blk_set_ne _ _ h]
theorem row_setRow_same (w : World) (g n : Nat) (C : Array Value) (h : rowIs w g n = true) : rowOf (w.setRow g C) g = C := by
  obtain ⟨t, hh, _⟩ := rowIs_elim h
  exact rowOf_of (setRow_heap w g _ C t (0, 0) hh)
theorem row_setRow_other (w : World) (g k : Nat) (C : Array Value) (h : k ≠ g) : rowOf (w.setRow g C) k = rowOf w k := by unfold rowOf; rw [setRow_other w g k C h]
theorem is_setRow_other (w : World) (g k n : Nat) (C : Array Value) (h : k ≠ g) : rowIs (w.setRow g C) k n = rowIs w k n := by unfold rowIs; rw [setRow_other w g k C h]
theorem is_setRow_same (w : World) (g m n : Nat) (C : Array Value) (h : rowIs w g m = true) : rowIs (w.setRow g C) g n = (C.size == n) := by
  obtain ⟨t, hh, _⟩ := rowIs_elim h
  simp [rowIs, setRow_heap w g _ C t (0, 0) hh]
/-- a row stored into the block laid last: in that block's own literal -/
theorem setRow_alloc_new (w : World) (C D : Array Value) (t : TypeId) (fz : Nat × Nat) : (w.alloc (.cells C t fz)).setRow w.heap.size D = w.alloc (.cells D t fz) := by
  simp only [World.setRow, World.alloc]
  congr 1
  apply Array.ext_getElem?
  intro i
  rw [Array.getElem?_modify, Array.getElem?_push, Array.getElem?_push]
  by_cases h : w.heap.size = i
  · subst h; simp
  · rw [if_neg h, if_neg (by omega), if_neg (by omega)]
/-- the cells of an object -/
def objRow : Obj → Array Value | .cells c _ _ => c | _ => #[]
def objIs (n : Nat) : Obj → Bool | .cells c _ (lo, hi) => c.size == n && lo == 0 && hi == 0 | _ => false
theorem objRow_cells (C : Array Value) (t : TypeId) (fz : Nat × Nat) : objRow (.cells C t fz) = C := rfl
theorem objIs_cells (n : Nat) (C : Array Value) (t : TypeId) : objIs n (.cells C t) = (C.size == n) := by simp [objIs]
theorem row_alloc (w : World) (o : Obj) (g : Nat) : rowOf (w.alloc o) g = if g = w.heap.size then objRow o else rowOf w g := by
  by_cases h : g = w.heap.size
  · subst h; rw [if_pos rfl]; unfold rowOf; rw [blk_alloc]; cases o <;> rfl
  · rw [if_neg h]
    unfold rowOf
    have : (w.alloc o).heap[g]? = w.heap[g]? := by
      show (w.heap.push o)[g]? = _
      rw [Array.getElem?_push, if_neg h]
    rw [this]
theorem is_alloc (w : World) (o : Obj) (g n : Nat) : rowIs (w.alloc o) g n = if g = w.heap.size then objIs n o else rowIs w g n := by
  by_cases h : g = w.heap.size
  · subst h; rw [if_pos rfl]; unfold rowIs; rw [blk_alloc]; cases o <;> rfl
  · rw [if_neg h]
    unfold rowIs
    have : (w.alloc o).heap[g]? = w.heap[g]? := by
      show (w.heap.push o)[g]? = _
      rw [Array.getElem?_push, if_neg h]
    rw [this]
/-- each value is of one cell -/
def oneAll (C : Array Value) : Bool := C.all (·.oneCell')
/-- a row that fills n cells -/
def stOk (n : Nat) (C : Array Value) : Bool := C.size == n && C.all (·.oneCell')
theorem run_storeS' (P : Program) (ty : TypeId) (n : Nat) (hi : (P.info? ty).map (·.size) = some n)
    (w : World) (g : Nat) (C : Array Value) (h : rowIs w g n = true) (hC : stOk n C = true) : (storeS ty (.pointer (some ⟨g, 0, none⟩)) (.agg C)).run P w = .ok () (w.setRow g C) := by
  simp only [stOk, Bool.and_eq_true, beq_iff_eq] at hC
  exact run_storeS P ty n hi w g C h hC.1 hC.2
theorem run_loadV (P : Program) (ty : TypeId) (d : TypeDesc) (n : Nat) (hu : P.underlying ty = some d) (hd : (match d with | .struct _ | .array _ _ => true | _ => false) = true) (hi : (P.info? ty).map (·.size) = some n)
    (w : World) (g : Nat) (C : Array Value) (h : rowIs w g n = true) (hC : rowOf w g = C) : (loadVar ty ⟨g, 0, none⟩).run P w = .ok (.agg C) w := by
  obtain ⟨t, hh, hs⟩ := rowIs_elim h
  have := run_loadVar_row (P := P) w g t ty (rowOf w g) (0, 0) d hh hu hd (by rw [hs]; exact hi)
  rw [this, hC]
section
variable {fn : Func} {a p b : Tmp} {ty : TypeId} (tmps : Array Value) (P : Program) (w : World) (g : Nat) (C : Array Value)
  (hp : tmps.getD p undef = .pointer (some ⟨g, 0, none⟩)) (hl : (loadVar ty ⟨g, 0, none⟩).run P w = .ok (.agg C) w)
include hp hl
theorem res_c (h : fn.results = #[.cell p ty]) : (results fn tmps).run P w = .ok (.agg C) w := by
  have hp' : tmps[p]?.getD undef = .pointer (some ⟨g, 0, none⟩) := by simpa using hp
  simp [results, h, hp', asAddr, hl]
theorem res_ct (h : fn.results = #[.cell p ty, .tmp b]) : (results fn tmps).run P w = .ok (.tuple #[.agg C, tmps.getD b undef]) w := by
  have hp' : tmps[p]?.getD undef = .pointer (some ⟨g, 0, none⟩) := by simpa using hp
  simp [results, h, hp', asAddr, hl]
theorem res_tct (h : fn.results = #[.tmp a, .cell p ty, .tmp b]) : (results fn tmps).run P w = .ok (.tuple #[tmps.getD a undef, .agg C, tmps.getD b undef]) w := by
  have hp' : tmps[p]?.getD undef = .pointer (some ⟨g, 0, none⟩) := by simpa using hp
  simp [results, h, hp', asAddr, hl]
end
/-! quiet calls behind draws -/
theorem q_same {P : Program} {f : FuncId} {args : Array Value} {w : World} {a n : Nat} {v : Value} (h : Calls P f args (w.drewN (a + n)) fun e w' => e = .returned v ∧ w' = w.drewN (a + n)) :
    Calls P f args (w.drewN (a + n)) fun e w' => e = .returned v ∧ ∃ m, w' = w.drewN (a + m) := h.mono fun _ _ hh => ⟨hh.1, n, hh.2⟩
theorem q_draws {P : Program} {f : FuncId} {args : Array Value} {w : World} {a n : Nat} {v : Value} (h : Calls P f args (w.drewN (a + n)) fun e w' => e = .returned v ∧ ∃ m, w' = (w.drewN (a + n)).drewN m) :
    Calls P f args (w.drewN (a + n)) fun e w' => e = .returned v ∧ ∃ m, w' = w.drewN (a + m) := h.mono fun _ _ hh => by
  obtain ⟨h1, m, h2⟩ := hh
  exact ⟨h1, n + m, by rw [h2, World.drewN_drewN, Nat.add_assoc]⟩
end Go.Proofs.YtoiffpoffnlebaaDoor
end
section
set_option linter.unusedVariables false
set_option linter.unusedSimpArgs false
namespace Go.Proofs.YtoiffpoffnlebaaDoor
open Go.RowKit

/-! ### byte -/
set_option maxRecDepth 100000 in
set_option maxHeartbeats 4000000 in
theorem own_u8 (a : Option Addr) (m c : Nat) (V : Nat → Int) (fill : Int) (w : World) (hn : a = none → c = 0) (hle : m ≤ c) (hm : (m : Int) ≤ 140737488351232) (hr : IsRow w a m (fun i => Value.int .u8 (V i))) :
    Calls Tryd.prog 5 #[.slice a m c, Value.int .u8 fill] w fun e w' => e = .returned (.slice (some ⟨w.heap.size, 0, none⟩) m (m + 3)) ∧ w'.rowIs w.heap.size 5 (m + 3) (fun i => Value.int .u8 (if i < m then V i else fill)) ∧ Below w.heap.size w w' := by
  have hmk : ∀ wq, (Instr.makeSlice 22 (.int .i64 0) (.int .i64 ((m : Int) + 3))).run Tryd.prog wq = .ok (.slice (some ⟨wq.heap.size, 0, none⟩) 0 (m + 3)) (wq.alloc (.cells (madeCells #[.int .u8 0] (m + 3)) 5)) := fun wq => by
    obtain ⟨i, hi, hzz⟩ := Option.map_eq_some_iff.1 A_info5
    simp only [Prod.mk.injEq] at hzz
    obtain ⟨hz, hsz, hb⟩ := hzz
    have := run_make (P := Tryd.prog) (w := wq) 22 5 i _ Tryd.underlying22 hi hz .i64 .i64 0 ((m : Int) + 3) (by omega) (by omega) (by rw [hb]; omega) (by omega)
    rw [this, hsz, show ((m : Int) + 3).toNat = m + 3 by omega, Nat.mul_one]
    rfl
  obtain ⟨inf, hinf, hzz⟩ := Option.map_eq_some_iff.1 A_info5
  simp only [Prod.mk.injEq] at hzz
  have HI := Lib.hid (And.intro hinf hzz)
  clear hinf hzz
  have HR := Lib.hid hr
  have HN := Lib.hid (And.intro hn hle)
  clear hr hn hle
  have hlen : Hid (((List.range m).map fun i => Value.int .u8 (V i)).length = m * 1) := by show _ = _; simp
  have hone : Hid (∀ u ∈ (List.range m).map fun i => Value.int .u8 (V i), u.oneCell' = true) := by
    intro u hu
    simp only [List.mem_map] at hu
    obtain ⟨i, _, rfl⟩ := hu
    rfl
  have hsrc : Hid (∀ ad, a = some ad → ∀ j u, ((List.range m).map fun i => Value.int .u8 (V i))[j]? = some u → (w.alloc (.cells (madeCells #[.int .u8 0] (m + 3)) 5)).cell? (ad.add j) = some u) := by
    intro ad he j u hu
    have hj : j < m := by have := (List.getElem?_eq_some_iff.1 hu).1; simpa using this
    obtain ⟨b, o, h1, h2, h3⟩ := HR.out (by omega)
    rw [h1] at he
    obtain rfl := Option.some.inj he
    rw [addr_add, World.cell?_alloc_lt _ _ _ h2, h3 j hj, ← hu]
    simp [hj]
  have hown0 : Hid ((w.alloc (.cells (madeCells #[.int .u8 0] (m + 3)) 5)).ownsRow w.heap.size 5 1 (.slice (some ⟨w.heap.size, 0, none⟩) 0 (m + 3)) 0 []) := by
    refine ⟨rfl, .inr ⟨w.heap.size, m + 3, madeCells #[.int .u8 0] (m + 3), rfl, Nat.le_refl _, blk_alloc _ _, Nat.zero_le _, ?_, ?_, rfl⟩⟩
    · unfold maxLen; omega
    · simp [madeCells]
  go_enter Tryd.func5, Tryd.ntmps5
  go_wp2_with (at_builtin; refine wpList_append_fits_any _ rfl _ _ 22 rfl w.heap.size 5 inf 1 Tryd.underlying22 HI.out.1 HI.out.2.2.1 w.heap.size 0 (m + 3) [] rfl hown0.out a m c _ rfl hlen.out (fun h => ⟨by have := HN.out.1 h; have := HN.out.2; omega, HN.out.1 h⟩) hsrc.out hone.out (by omega) ?_; intro w1 hown hg; have HO := Lib.hid hown; have HG := Lib.hid hg; clear hown hg hmk)
  obtain ⟨cur, hh, hsz, ht⟩ : ∃ cur : Array Value, w1.heap[w.heap.size]? = some (.cells cur 5 (0, 0)) ∧ cur.size = m + 3 ∧ ∀ i, i < m → cur[i]? = some (Value.int .u8 (V i)) := by
    rcases HO.out.2 with ⟨h, _⟩ | ⟨g, cap, cur, h, _, hh, _, _, hs, ht⟩
    · cases h
    · injection h with h1 _ h3
      injection h1 with h1
      injection h1 with h1
      subst h1
      subst h3
      refine ⟨cur, hh, by simpa using hs, fun i hi => ?_⟩
      have h4 := congrArg (fun l => l[i]?) ht
      simp [List.getElem?_take, hi] at h4
      simpa [show i < 0 + m by omega] using h4
  obtain ⟨q0, c0⟩ : ∃ q, w1.cell? ⟨w.heap.size, m, none⟩ = some q := ⟨cur[m]'(by omega), by rw [blk_cell hh]; simp⟩
  obtain ⟨q1, c1⟩ : ∃ q, w1.cell? ⟨w.heap.size, m + 1, none⟩ = some q := ⟨cur[m + 1]'(by omega), by rw [blk_cell hh]; simp⟩
  obtain ⟨q2, c2⟩ : ∃ q, w1.cell? ⟨w.heap.size, m + 2, none⟩ = some q := ⟨cur[m + 2]'(by omega), by rw [blk_cell hh]; simp⟩
  have f0 : w1.frozen? ⟨w.heap.size, m, none⟩ = false := blk_frozen hh _
  have f1 : w1.frozen? ⟨w.heap.size, m + 1, none⟩ = false := blk_frozen hh _
  have f2 : w1.frozen? ⟨w.heap.size, m + 2, none⟩ = false := blk_frozen hh _
  have HH := Lib.hid hh
  have HT := Lib.hid (And.intro hsz ht)
  clear hh hsz ht
  go_wp2_with fail
  go_rounds 4
  go_ret
  refine ⟨rfl, ⟨_, blk_set (blk_set (blk_set HH.out m (Value.int .u8 fill)) (m + 1) (Value.int .u8 fill)) (m + 2) (Value.int .u8 fill), by simp [HT.out.1], fun i hi => ?_⟩, ?_⟩
  · rw [Array.getElem?_setIfInBounds, Array.getElem?_setIfInBounds, Array.getElem?_setIfInBounds]
    simp only [Array.size_setIfInBounds, HT.out.1]
    by_cases h2 : m + 2 = i
    · subst h2; rw [if_pos rfl, if_pos (by omega), if_neg (by omega)]
    · rw [if_neg h2]
      by_cases h1 : m + 1 = i
      · subst h1; rw [if_pos rfl, if_pos (by omega), if_neg (by omega)]
      · rw [if_neg h1]
        by_cases h0 : m = i
        · subst h0; rw [if_pos rfl, if_pos (by omega), if_neg (by omega)]
        · rw [if_neg h0, HT.out.2 i (by omega), if_pos (by omega)]
  · have hB : Below w.heap.size w w1 := ((Below.refl w.heap.size w).alloc (Nat.le_refl _) _).grown HG.out (by simp) (by rintro k ⟨⟩; exact Nat.le_refl _)
    exact ((hB.setCell (Nat.le_refl _) _).setCell (Nat.le_refl _) _).setCell (Nat.le_refl _) _

set_option maxRecDepth 100000 in
set_option maxHeartbeats 2000000 in
theorem eq_u8 (x y : Int) (w : World) : Calls Tryd.prog 30 #[Value.int .u8 x, Value.int .u8 y] w fun e w' => e = .returned (.bool (x == y)) ∧ w = w' := by
  go_enter Tryd.func30, Tryd.ntmps30
  go_wp2
  go_ret
  exact ⟨ret_bool (by first | rfl | (simp; done)), rfl⟩
set_option maxRecDepth 100000 in
set_option maxHeartbeats 4000000 in
/-- two lists that are alike -/
theorem same_u8 (a1 a2 : Option Addr) (m c1 c2 : Nat) (V : Nat → Int) (w : World) (hm : (m : Int) ≤ 9223372036854775807) (h1 : IsRow w a1 m (fun i => Value.int .u8 (V i))) (h2 : IsRow w a2 m (fun i => Value.int .u8 (V i))) :
    Calls Tryd.prog 29 #[.slice a1 m c1, .slice a2 m c2, .func (.func 30) #[] #[]] w fun e w' => e = .returned (.bool true) ∧ ∃ k, w' = w.drewN k := by
  have H1 := Lib.hid h1
  have H2 := Lib.hid h2
  clear h1 h2
  go_enter Tryd.func29, Tryd.ntmps29
  go_wp2_with fail
  go_loopw [7] (fun i wr => ∃ k : Nat, (k : Int) ≤ m ∧ i = .int .i64 k ∧ ∃ q, wr = w.drewN q) (fun i _ => m - (intOf i).toNat)
  case atStart => exact ⟨0, by omega, rfl, 0, rfl⟩
  case round =>
    obtain ⟨k, hk, rfl, q, rfl⟩ := hrel
    by_cases hlt : (k : Int) < m
    · clear hk
      obtain ⟨b1, o1, rfl, _, hc1⟩ := H1.out (by omega)
      obtain ⟨b2, o2, rfl, _, hc2⟩ := H2.out (by omega)
      have e1 : w.cell? ⟨b1, o1 + k, none⟩ = some (Value.int .u8 (V k)) := hc1 k (by omega)
      have e2 : w.cell? ⟨b2, o2 + k, none⟩ = some (Value.int .u8 (V k)) := hc2 k (by omega)
      clear hc1 hc2
      generalize V k = x at *
      have hxx : (x == x) = true := by simp
      go_wp2_with fail
      refine wp_region_held_drew (S := fun w' => w'.cell? ⟨b1, o1 + k, none⟩ = some (Value.int .u8 x) ∧ w'.cell? ⟨b2, o2 + k, none⟩ = some (Value.int .u8 x) ∧ ∃ q, w' = w.drewN q) (by kernel_rfl) ⟨e1, e2, q + 1, rfl⟩ (fun hH => ?_)
      refine wpAnyH_take (i := 0) (oi := ⟨some 19, _, _, _, _, _⟩) (v := ?_) rfl (by kernel_rfl) (by kernel_rfl) (by kernel_rfl) (fun _ _ _ h => h) (Or.inl ⟨by kernel_rfl, ?_⟩) hH ?_
      rotate_left 1
      · intro wq hq; have hq1 := hq.1; have hq2 := hq.2.1; first | (go_simp; done) | (go_simp; with_reducible rfl)
      simp only [Act.put, List.setIfInBounds_toArray, List.set_cons_zero, List.set_cons_succ]
      refine wpAnyH_take (i := 1) (oi := ⟨some 20, _, _, _, _, _⟩) (v := ?_) rfl (by kernel_rfl) (by kernel_rfl) (by kernel_rfl) (fun _ _ _ h => h) (Or.inl ⟨by kernel_rfl, ?_⟩) hH ?_
      rotate_left 1
      · intro wq hq; have hq1 := hq.1; have hq2 := hq.2.1; first | (go_simp; done) | (go_simp; with_reducible rfl)
      simp only [Act.put, List.setIfInBounds_toArray, List.set_cons_zero, List.set_cons_succ]
      refine wpAnyH_take (i := 2) (oi := ⟨some 21, _, _, _, _, _⟩) (v := ?_) rfl (by kernel_rfl) (by kernel_rfl) (by kernel_rfl) (fun _ _ _ h => h) (Or.inl ⟨by kernel_rfl, ?_⟩) hH ?_
      rotate_left 1
      · intro wq hq; have hq1 := hq.1; have hq2 := hq.2.1; first | (go_simp; done) | (go_simp; with_reducible rfl)
      simp only [Act.put, List.setIfInBounds_toArray, List.set_cons_zero, List.set_cons_succ]
      refine wpAnyH_take (i := 3) (oi := ⟨some 22, _, _, _, _, _⟩) (v := ?_) rfl (by kernel_rfl) (by kernel_rfl) (by kernel_rfl) (fun _ _ _ h => h) (Or.inl ⟨by kernel_rfl, ?_⟩) hH ?_
      rotate_left 1
      · intro wq hq; have hq1 := hq.1; have hq2 := hq.2.1; first | (go_simp; done) | (go_simp; with_reducible rfl)
      simp only [Act.put, List.setIfInBounds_toArray, List.set_cons_zero, List.set_cons_succ]
      refine wpAnyH_take (i := 4) (oi := ⟨some 23, _, _, _, _, _⟩) (v := ?_) rfl (by kernel_rfl) (by kernel_rfl) (by kernel_rfl) (fun _ _ _ h => h) (Or.inl ⟨by kernel_rfl, ?_⟩) hH ?_
      rotate_left 1
      · intro wq hq; have hq1 := hq.1; have hq2 := hq.2.1; first | (go_simp; done) | (go_simp; with_reducible rfl)
      simp only [Act.put, List.setIfInBounds_toArray, List.set_cons_zero, List.set_cons_succ]
      refine wpAnyH_take (i := 5) (oi := ⟨some 24, _, _, _, _, _⟩) (v := ?_) rfl (by kernel_rfl) (by kernel_rfl) (by kernel_rfl) (fun _ _ _ h => h) (Or.inl ⟨by kernel_rfl, ?_⟩) hH ?_
      rotate_left 1
      · intro wq hq; have hq1 := hq.1; have hq2 := hq.2.1; first | (go_simp; done) | (go_simp; with_reducible rfl)
      simp only [Act.put, List.setIfInBounds_toArray, List.set_cons_zero, List.set_cons_succ]
      refine wpAnyH_take (i := 6) (oi := ⟨some 25, _, _, _, _, _⟩) (v := ?_) rfl (by kernel_rfl) (by kernel_rfl) (by kernel_rfl) (fun _ _ _ h => h) (Or.inl ⟨by kernel_rfl, ?_⟩) hH ?_
      rotate_left 1
      · intro wq hq; have hq1 := hq.1; have hq2 := hq.2.1; first | (go_simp; done) | (go_simp; with_reducible rfl)
      simp only [Act.put, List.setIfInBounds_toArray, List.set_cons_zero, List.set_cons_succ]
      refine wpAnyH_take (i := 7) (oi := ⟨some 26, _, _, _, _, _⟩) (v := ?_) rfl (by kernel_rfl) (by kernel_rfl) (by kernel_rfl) (fun _ _ _ h => h) (Or.inl ⟨by kernel_rfl, ?_⟩) hH ?_
      rotate_left 1
      · intro wq hq; have hq1 := hq.1; have hq2 := hq.2.1; first | (go_simp; done) | (go_simp; with_reducible rfl)
      simp only [Act.put, List.setIfInBounds_toArray, List.set_cons_zero, List.set_cons_succ]
      refine wpAnyH_take (i := 8) (oi := ⟨some 27, _, _, _, _, _⟩) (v := ?_) rfl (by kernel_rfl) (by kernel_rfl) (by kernel_rfl) (fun _ _ _ h => h) (Or.inl ⟨by kernel_rfl, ?_⟩) hH ?_
      rotate_left 1
      · intro wq hq; have hq1 := hq.1; have hq2 := hq.2.1; first | (go_simp; done) | (go_simp; with_reducible rfl)
      simp only [Act.put, List.setIfInBounds_toArray, List.set_cons_zero, List.set_cons_succ]
      refine wpAnyH_ready (rs := [9]) (by kernel_rfl) (by simp) (AllReadyH.cons (o := ⟨some 28, _, _, _, _, _⟩) rfl (fun K hK => ?_) AllReadyH.nil)
      go_simp
      refine (eq_u8 x x _).mono ?_
      rintro e w1 ⟨rfl, rfl⟩
      go_wp2_with fail
      refine hK.out _ _ hH (fun hH => ?_)
      clear hK K
      try simp only [Act.put, List.setIfInBounds_toArray, List.set_cons_zero, List.set_cons_succ]
      refine wpAnyH_take (i := 10) (oi := ⟨some 29, _, _, _, _, _⟩) (v := ?_) rfl (by kernel_rfl) (by kernel_rfl) (by kernel_rfl) (fun _ _ _ h => h) (Or.inl ⟨by kernel_rfl, ?_⟩) hH ?_
      rotate_left 1
      · intro wq hq; have hq1 := hq.1; have hq2 := hq.2.1; first | (go_simp; done) | (go_simp; with_reducible rfl)
      simp only [Act.put, List.setIfInBounds_toArray, List.set_cons_zero, List.set_cons_succ]
      refine wpAnyH_done (by kernel_rfl) ?_ _
      go_wp2_with fail
      exact ⟨⟨k + 1, by omega, by rw [Int.natCast_succ], _, rfl⟩, by simp [intOf]; omega⟩
    · obtain rfl : k = m := by omega
      go_wp2_with fail
      go_ret
      exact ⟨rfl, q, rfl⟩
set_option maxRecDepth 100000 in
set_option maxHeartbeats 2000000 in
theorem plain_u8 (a1 a2 : Option Addr) (m c1 c2 : Nat) (V : Nat → Int) (w : World) (hm : (m : Int) ≤ 9223372036854775807) (h1 : IsRow w a1 m (fun i => Value.int .u8 (V i))) (h2 : IsRow w a2 m (fun i => Value.int .u8 (V i))) :
    Calls Tryd.prog 21 #[.slice a1 m c1, .slice a2 m c2] w fun e w' => e = .returned (.bool true) ∧ ∃ k, w' = w.drewN k := by
  have H := Lib.hid (same_u8 a1 a2 m c1 c2 V w hm h1 h2)
  clear h1 h2
  go_enter Tryd.func21, Tryd.ntmps21
  go_wp2_with fail
  refine H.out.mono ?_
  rintro e w1 ⟨rfl, k, rfl⟩
  go_wp2_with fail
  go_ret
  exact ⟨rfl, k, rfl⟩
set_option maxRecDepth 100000 in
set_option maxHeartbeats 2000000 in
/-- the copy and the room behind it are as they were -/
theorem kept_u8 (a : Option Addr) (m c g : Nat) (V : Nat → Int) (fill : Int) (w : World) (hm : (m : Int) ≤ 140737488351232) (ho : w.rowIs g 5 (m + 3) (fun i => Value.int .u8 (if i < m then V i else fill))) (hr : IsRow w a m (fun i => Value.int .u8 (V i))) :
    Calls Tryd.prog 11 #[.slice (some ⟨g, 0, none⟩) m (m + 3), .slice a m c, Value.int .u8 fill] w fun e w' => e = .returned (.bool true) ∧ ∃ k, w' = w.drewN k := by
  have HP := Lib.hid (plain_u8 (some ⟨g, 0, none⟩) a m (m + 3) c V w (by omega) (fun hn => ⟨g, 0, rfl, ho.lt, fun i hi => by rw [Nat.zero_add, ho.cell (by omega), if_pos hi]⟩) hr)
  have c0 : w.cell? ⟨g, m, none⟩ = some (Value.int .u8 fill) := by rw [ho.cell (by omega), if_neg (by omega)]
  have c1 : w.cell? ⟨g, m + 1, none⟩ = some (Value.int .u8 fill) := by rw [ho.cell (by omega), if_neg (by omega)]
  have c2 : w.cell? ⟨g, m + 2, none⟩ = some (Value.int .u8 fill) := by rw [ho.cell (by omega), if_neg (by omega)]
  clear ho hr
  go_enter Tryd.func11, Tryd.ntmps11
  go_wp2_with fail
  refine HP.out.mono ?_
  rintro e w1 ⟨rfl, k, rfl⟩
  clear HP
  go_wp2_with fail
  go_rounds 4
  go_ret
  exact ⟨rfl, k, rfl⟩
end Go.Proofs.YtoiffpoffnlebaaDoor
end
