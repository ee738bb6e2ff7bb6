/- One call of the memory's script, Put: both answer alike. -/
import Derived.Test.YtebdbbpefmgooaaRamBoth
import Derived.StillTailTactics
import Derived.BigRegion
import Derived.Deep.RegionWith
import Derived.Deep.RegionHeld3
import Derived.Deep.QuietTactic
import Derived.BigQuiet
import Derived.Deep.DeepFit
import Derived.Deep.DeepMust
import Derived.Handy
set_option linter.unusedVariables false
set_option linter.unusedSimpArgs false
namespace Go.Proofs.Ytebdbbpefmgooaa
open Go.RowKit
set_option maxRecDepth 100000
set_option maxHeartbeats 4000000 in
theorem step_put {w : World} {B b n wb : Nat} {ct : Nat → Nat} {S : Nat → Prop} {rv : Value} {c : Nat → Int × Int} {m : Nat} (h : Both w B b n wb ct S rv c m) (n4 : (4 : Int) ≤ n) (n256 : (n : Int) ≤ 256) (hmx : (m : Int) + 8 ≤ 100000000)
    (k x : Int) (v : Nat) (raw : Bool) (s t : Value) (x0 : 0 ≤ x) (x1 : x < 18446744073709551616) (hv : v < 2 ^ 64) :
    Calls Try.prog 51 #[.pointer (some ⟨b, 0, none⟩), .pointer (some ⟨wb, 0, none⟩), .agg #[.int .i64 2, .int .i64 k, .int .u64 x, .bool raw, s, t, .int .u64 v]] w fun e w' => e = .returned (.bool true) ∧ BothTo w w' B b n wb S rv (m + 8) := by
  have H := Lib.hid h
  have HX := Lib.hid (And.intro x0 x1)
  have HV := Lib.hid hv
  have HMX := Lib.hid hmx
  have HP := fun W : World => Lib.hid (law_place (w := W) 2 k x v raw s t x0 x1)
  clear h hv hmx
  go_enter Try.func51, Try.ntmps51
  go_wp2_with fail
  refine ((HP _).out).mono ?_
  rintro e w1 ⟨rfl, hb1⟩
  have p0 := placeAt_lo x raw HX.out.1
  have p1 := placeAt_hi x raw HX.out.2
  generalize placeAt x raw = y at *
  have HB1 : Hid (Below w.heap.size w w1) := by
    have hz := (Below.refl w.heap.size w).alloc (Nat.le_refl _) (.cells #[.int .i64 2, .int .i64 k, .int .u64 x, .bool raw, s, t, .int .u64 v] 91)
    exact hz.trans (hb1.mono (by simp))
  clear HP
  have hbk : w1.heap[w.heap.size]? = some (.cells #[.int .i64 2, .int .i64 k, .int .u64 x, .bool raw, s, t, .int .u64 v] 91 (0, 0)) := (hb1.block _ (by simp)).trans (blk_alloc w _)
  have q0 : w1.cell? ⟨w.heap.size, 0, none⟩ = some (.int .i64 2) := blk_cell hbk 0
  have H1 := Lib.hid (H.out.below HB1.out)
  have HBK := Lib.hid hbk
  have H0 := Lib.hid H.out.B_lt
  have HLT := Lib.hid (show ¬ S w.heap.size ∧ w.heap.size ≠ b ∧ w.heap.size ≠ wb ∧ rv.ownBlock ≠ some w.heap.size from by
    have h := H.out
    refine ⟨fun e => ?_, ?_, ?_, fun e => ?_⟩
    · have := h.ram.lt e; omega
    · have := h.ram.self.2; omega
    · have := h.wb_lt; omega
    · have := (h.sv _ e).2.2.2; omega)
  clear hb1 hbk H
  go_wp2_with fail
  refine wp_region_held_drew (S := fun wq => wq.heap[w.heap.size]? = some (.cells #[.int .i64 2, .int .i64 k, .int .u64 x, .bool raw, s, t, .int .u64 v] 91 (0, 0))) (by kernel_rfl) HBK.out (fun hH => ?_)
  refine wpAnyH_take (i := 0) (oi := ⟨some 65, _, _, _, _, _⟩) (v := ?_) rfl (by kernel_rfl) (by kernel_rfl) (by kernel_rfl) (fun _ _ _ h => h) (Or.inl ⟨by kernel_rfl, ?_⟩) hH ?_
  rotate_left 1
  · intro wq hq; have c1 := blk_cell hq 1; have c6 := blk_cell hq 6; simp only [List.getElem?_toArray, List.getElem?_cons_succ, List.getElem?_cons_zero] at c1 c6; first | (go_simp; done) | (go_simp; with_reducible rfl)
  simp only [Act.put, List.setIfInBounds_toArray, List.set_cons_zero, List.set_cons_succ]
  refine wpAnyH_take (i := 1) (oi := ⟨some 66, _, _, _, _, _⟩) (v := ?_) rfl (by kernel_rfl) (by kernel_rfl) (by kernel_rfl) (fun _ _ _ h => h) (Or.inl ⟨by kernel_rfl, ?_⟩) hH ?_
  rotate_left 1
  · intro wq hq; have c1 := blk_cell hq 1; have c6 := blk_cell hq 6; simp only [List.getElem?_toArray, List.getElem?_cons_succ, List.getElem?_cons_zero] at c1 c6; first | (go_simp; done) | (go_simp; with_reducible rfl)
  simp only [Act.put, List.setIfInBounds_toArray, List.set_cons_zero, List.set_cons_succ]
  refine wpAnyH_take (i := 2) (oi := ⟨some 67, _, _, _, _, _⟩) (v := ?_) rfl (by kernel_rfl) (by kernel_rfl) (by kernel_rfl) (fun _ _ _ h => h) (Or.inl ⟨by kernel_rfl, ?_⟩) hH ?_
  rotate_left 1
  · intro wq hq; have c1 := blk_cell hq 1; have c6 := blk_cell hq 6; simp only [List.getElem?_toArray, List.getElem?_cons_succ, List.getElem?_cons_zero] at c1 c6; first | (go_simp; done) | (go_simp; with_reducible rfl)
  simp only [Act.put, List.setIfInBounds_toArray, List.set_cons_zero, List.set_cons_succ]
  refine wpAnyH_take (i := 3) (oi := ⟨some 68, _, _, _, _, _⟩) (v := ?_) rfl (by kernel_rfl) (by kernel_rfl) (by kernel_rfl) (fun _ _ _ h => h) (Or.inl ⟨by kernel_rfl, ?_⟩) hH ?_
  rotate_left 1
  · intro wq hq; have c1 := blk_cell hq 1; have c6 := blk_cell hq 6; simp only [List.getElem?_toArray, List.getElem?_cons_succ, List.getElem?_cons_zero] at c1 c6; first | (go_simp; done) | (go_simp; with_reducible rfl)
  simp only [Act.put, List.setIfInBounds_toArray, List.set_cons_zero, List.set_cons_succ]
  refine wpAnyH_take (i := 4) (oi := ⟨some 69, _, _, _, _, _⟩) (v := ?_) rfl (by kernel_rfl) (by kernel_rfl) (by kernel_rfl) (fun _ _ _ h => h) (Or.inl ⟨by kernel_rfl, ?_⟩) hH ?_
  rotate_left 1
  · intro wq hq; have c1 := blk_cell hq 1; have c6 := blk_cell hq 6; simp only [List.getElem?_toArray, List.getElem?_cons_succ, List.getElem?_cons_zero] at c1 c6; first | (go_simp; done) | (go_simp; with_reducible rfl)
  simp only [Act.put, List.setIfInBounds_toArray, List.set_cons_zero, List.set_cons_succ]
  refine wpAnyH_take (i := 5) (oi := ⟨some 70, _, _, _, _, _⟩) (v := ?_) rfl (by kernel_rfl) (by kernel_rfl) (by kernel_rfl) (fun _ _ _ h => h) (Or.inl ⟨by kernel_rfl, ?_⟩) hH ?_
  rotate_left 1
  · intro wq hq; have c1 := blk_cell hq 1; have c6 := blk_cell hq 6; simp only [List.getElem?_toArray, List.getElem?_cons_succ, List.getElem?_cons_zero] at c1 c6; first | (go_simp; done) | (go_simp; with_reducible rfl)
  simp only [Act.put, List.setIfInBounds_toArray, List.set_cons_zero, List.set_cons_succ]
  refine wpAnyH_take (i := 7) (oi := ⟨some 72, _, _, _, _, _⟩) (v := ?_) rfl (by kernel_rfl) (by kernel_rfl) (by kernel_rfl) (fun _ _ _ h => h) (Or.inl ⟨by kernel_rfl, ?_⟩) hH ?_
  rotate_left 1
  · intro wq hq; have c1 := blk_cell hq 1; have c6 := blk_cell hq 6; simp only [List.getElem?_toArray, List.getElem?_cons_succ, List.getElem?_cons_zero] at c1 c6; first | (go_simp; done) | (go_simp; with_reducible rfl)
  simp only [Act.put, List.setIfInBounds_toArray, List.set_cons_zero, List.set_cons_succ]
  refine wpAnyH_take (i := 8) (oi := ⟨some 73, _, _, _, _, _⟩) (v := ?_) rfl (by kernel_rfl) (by kernel_rfl) (by kernel_rfl) (fun _ _ _ h => h) (Or.inl ⟨by kernel_rfl, ?_⟩) hH ?_
  rotate_left 1
  · intro wq hq; have c1 := blk_cell hq 1; have c6 := blk_cell hq 6; simp only [List.getElem?_toArray, List.getElem?_cons_succ, List.getElem?_cons_zero] at c1 c6; first | (go_simp; done) | (go_simp; with_reducible rfl)
  simp only [Act.put, List.setIfInBounds_toArray, List.set_cons_zero, List.set_cons_succ]
  refine wpAnyH_take (i := 9) (oi := ⟨some 74, _, _, _, _, _⟩) (v := ?_) rfl (by kernel_rfl) (by kernel_rfl) (by kernel_rfl) (fun _ _ _ h => h) (Or.inl ⟨by kernel_rfl, ?_⟩) hH ?_
  rotate_left 1
  · intro wq hq; have c1 := blk_cell hq 1; have c6 := blk_cell hq 6; simp only [List.getElem?_toArray, List.getElem?_cons_succ, List.getElem?_cons_zero] at c1 c6; first | (go_simp; done) | (go_simp; with_reducible rfl)
  simp only [Act.put, List.setIfInBounds_toArray, List.set_cons_zero, List.set_cons_succ]
  refine wpAnyH_take (i := 10) (oi := ⟨some 75, _, _, _, _, _⟩) (v := ?_) rfl (by kernel_rfl) (by kernel_rfl) (by kernel_rfl) (fun _ _ _ h => h) (Or.inl ⟨by kernel_rfl, ?_⟩) hH ?_
  rotate_left 1
  · intro wq hq; have c1 := blk_cell hq 1; have c6 := blk_cell hq 6; simp only [List.getElem?_toArray, List.getElem?_cons_succ, List.getElem?_cons_zero] at c1 c6; first | (go_simp; done) | (go_simp; with_reducible rfl)
  simp only [Act.put, List.setIfInBounds_toArray, List.set_cons_zero, List.set_cons_succ]
  refine wpAnyH_take (i := 11) (oi := ⟨some 76, _, _, _, _, _⟩) (v := ?_) rfl (by kernel_rfl) (by kernel_rfl) (by kernel_rfl) (fun _ _ _ h => h) (Or.inl ⟨by kernel_rfl, ?_⟩) hH ?_
  rotate_left 1
  · intro wq hq; have c1 := blk_cell hq 1; have c6 := blk_cell hq 6; simp only [List.getElem?_toArray, List.getElem?_cons_succ, List.getElem?_cons_zero] at c1 c6; first | (go_simp; done) | (go_simp; with_reducible rfl)
  simp only [Act.put, List.setIfInBounds_toArray, List.set_cons_zero, List.set_cons_succ]
  refine wpAnyH_take (i := 12) (oi := ⟨some 77, _, _, _, _, _⟩) (v := ?_) rfl (by kernel_rfl) (by kernel_rfl) (by kernel_rfl) (fun _ _ _ h => h) (Or.inl ⟨by kernel_rfl, ?_⟩) hH ?_
  rotate_left 1
  · intro wq hq; have c1 := blk_cell hq 1; have c6 := blk_cell hq 6; simp only [List.getElem?_toArray, List.getElem?_cons_succ, List.getElem?_cons_zero] at c1 c6; first | (go_simp; done) | (go_simp; with_reducible rfl)
  simp only [Act.put, List.setIfInBounds_toArray, List.set_cons_zero, List.set_cons_succ]
  refine wpAnyH_ready (rs := [6]) (by kernel_rfl) (by simp) (AllReadyH.cons (o := ⟨some 71, _, _, _, _, _⟩) rfl (fun K hK => ?_) AllReadyH.nil)
  go_simp
  refine (ram_put_any (w := w1.drew) H1.out.ram.drew y p0 p1 k v).mono ?_
  rintro e w2 ⟨rfl, h2⟩
  have HS2 : Hid (Turned S w1.drew w2) := by obtain ⟨_, _, r, _⟩ := h2; exact r
  go_wp2_with fail
  refine hK.out _ _ ?_ (fun hH => ?_)
  · exact (HS2.out.block _ (blk_lt hH) HLT.out.1).trans hH
  have HH2 := Lib.hid h2
  clear h2
  clear hK K
  try simp only [Act.put, List.setIfInBounds_toArray, List.set_cons_zero, List.set_cons_succ]
  refine wpAnyH_ready (rs := [13]) (by kernel_rfl) (by simp) (AllReadyH.cons (o := ⟨some 78, _, _, _, _, _⟩) rfl (fun K hK => ?_) AllReadyH.nil)
  go_simp
  have HR2 : Hid (RefRam w2 B wb n rv c m) := (H1.out.ref.below (Below.refl _ _).drew).turned HS2.out H1.out.sw (fun g hg => (H1.out.sv g hg).1)
  have HBW := Lib.hid (Nat.le_trans H1.out.B_lt HS2.out.size)
  refine (ref_put_any (w := w2) HR2.out n4 n256 y p0 p1 k v HV.out HMX.out HBW.out (fun e => (H1.out.sv wb e).2.2.1 rfl)).mono ?_
  rintro e w3 ⟨rfl, h3⟩
  have HS3 : Hid (Turned (fun g => g = wb ∨ rv.ownBlock = some g) w2 w3) := by obtain ⟨_, _, _, _, _, _, r, _⟩ := h3; exact r
  have HH3 := Lib.hid h3
  clear h3
  go_wp2_with fail
  refine hK.out _ _ ?_ (fun hH => ?_)
  · exact (HS3.out.block _ (blk_lt hH) (by rintro (e | e); exact HLT.out.2.2.1 e; exact HLT.out.2.2.2 e)).trans hH
  clear hK K
  try simp only [Act.put, List.setIfInBounds_toArray, List.set_cons_zero, List.set_cons_succ]
  refine wpAnyH_take (i := 14) (oi := ⟨some 79, _, _, _, _, _⟩) (v := ?_) rfl (by kernel_rfl) (by kernel_rfl) (by kernel_rfl) (fun _ _ _ h => h) (Or.inl ⟨by kernel_rfl, ?_⟩) hH ?_
  rotate_left 1
  · intro wq hq; have c1 := blk_cell hq 1; have c6 := blk_cell hq 6; simp only [List.getElem?_toArray, List.getElem?_cons_succ, List.getElem?_cons_zero] at c1 c6; first | (go_simp; done) | (go_simp; with_reducible rfl)
  simp only [Act.put, List.setIfInBounds_toArray, List.set_cons_zero, List.set_cons_succ]
  refine wpAnyH_take (i := 15) (oi := ⟨some 6, _, _, _, _, _⟩) (v := ?_) rfl (by kernel_rfl) (by kernel_rfl) (by kernel_rfl) (fun _ _ _ h => h) (Or.inl ⟨by kernel_rfl, ?_⟩) hH ?_
  rotate_left 1
  · intro wq hq; have c1 := blk_cell hq 1; have c6 := blk_cell hq 6; simp only [List.getElem?_toArray, List.getElem?_cons_succ, List.getElem?_cons_zero] at c1 c6; first | (go_simp; done) | (go_simp; with_reducible rfl)
  simp only [Act.put, List.setIfInBounds_toArray, List.set_cons_zero, List.set_cons_succ]
  refine wpAnyH_done (by kernel_rfl) ?_ _

  have HF : Hid (BothTo w w3 B b n wb S rv (m + 8)) := (Both.turnIn (H1.out.below (Below.refl _ _).drew) HH2.out HH3.out (H1.out.same.putC n256 y k v)).to (HB1.out.trans ((Below.refl _ _).drew)) (fun _ e => e.elim)
  go_wp2_with fail
  go_ret
  exact ⟨by first | rfl | simp, HF.out⟩
end Go.Proofs.Ytebdbbpefmgooaa
