/- PlicPlays: one call. No condition. -/
import Derived.Test.YtebdbbpefmgooaaPlicHere
import Derived.StillTailTactics
import Derived.BigRegion
import Derived.Deep.RegionWith
import Derived.Deep.RegionHeld3
import Derived.Deep.QuietTactic
import Derived.BigQuiet
import Derived.Deep.LoopGhost
import Derived.Deep.DeepCutAuto
import Derived.Deep.DeepFit
import Derived.Deep.DeepMust
set_option linter.unusedVariables false
set_option linter.unusedSimpArgs false
namespace Go.Proofs.Ytebdbbpefmgooaa
open Go.RowKit
attribute [local go_sem ↓] ld_dev ld_ref ld_plc st_dev st_ref st_plc
attribute [local go_sem] rl_dev rl_ref rl_plc rs_dev rs_ref rs_plc Dev.size_cells Dev.st_ok Dev.c0 Dev.c1 Dev.c2 Dev.c3 Dev.c4 Dev.c5 Dev.c6 Dev.c7 Dev.c8 Dev.c9 Dev.c10 Dev.c11 Dev.c12 Dev.c13 Dev.c14 Dev.c15 Dev.c16 Dev.c17 Dev.c18 Dev.c19 Dev.c20 Dev.c21 Dev.set_pend Dev.set_cla row_alloc row_drew row_drewN is_alloc is_drew is_drewN row_setCell is_setCell setRow_alloc_new objRow_cells objIs_cells row_setRow_same row_setRow_other is_setRow_same is_setRow_other
theorem row_below {w w' : World} (h : Below w.heap.size w w') {g : Nat} (hg : g < w.heap.size) : rowOf w' g = rowOf w g ∧ ∀ n, rowIs w' g n = rowIs w g n := by
  unfold rowOf rowIs
  rw [h.block g hg]
  exact ⟨rfl, fun _ => rfl⟩
theorem rowIs_lt {w : World} {g n : Nat} (h : rowIs w g n = true) : g < w.heap.size := by
  obtain ⟨t, hh, _⟩ := rowIs_elim h
  exact blk_lt hh
def StepS (w : World) (b B4 B6 : Nat) (D : Dev) (wq : World) : Prop := rowIs wq B4 22 = true ∧ rowOf wq B4 = D.cells ∧ rowIs wq B6 22 = true ∧ PlicAt wq b D ∧ w.grownBy wq (some b)
theorem stepS {w wq w' : World} {b B4 B6 : Nat} {D : Dev} (h : StepS w b B4 B6 D wq) (hb : Below wq.heap.size wq w') : StepS w b B4 B6 D w' := by
  obtain ⟨h1, h2, h3, h4, h5⟩ := h
  refine ⟨?_, ?_, ?_, blk_below hb (blk_lt h4) h4, grown_trans h5 (below_grown hb _)⟩
  · rw [(row_below hb (rowIs_lt h1)).2]; exact h1
  · rw [(row_below hb (rowIs_lt h1)).1]; exact h2
  · rw [(row_below hb (rowIs_lt h3)).2]; exact h3
theorem drewN_below' (w : World) (k : Nat) : Below w.heap.size w (w.drewN k) := ⟨rfl, rfl, rfl, Nat.le_refl _, fun _ _ => rfl⟩
/-- the state behind one call -/
def Dev.step (d : Dev) (k off v size : Int) : Dev := if k = 1 then (d.read off size).2.2 else if k = 2 then (d.write off size v.toNat).2 else d.tick (v % 4294967296).toNat
theorem Dev.step_ok (d : Dev) (hd : d.Ok) (k off v size : Int) : (d.step k off v size).Ok := by
  unfold Dev.step
  split
  · exact (d.read_ok hd _ _).1
  · split
    · exact d.write_ok hd _ _ _
    · exact d.tick_ok _ hd (by omega)
def Stepped (w : World) (b : Nat) (D : Dev) (e : Ending) (w' : World) : Prop := e = .returned (.tuple #[.agg D.cells, .bool true]) ∧ PlicAt w' b D ∧ w.grownBy w' (some b)
theorem isB_nil (w : World) {a : Option Addr} {n : Nat} (ha : a = none) (hn : n = 0) : IsB w a n [] := by subst ha hn; exact ⟨rfl, by simp, .inl ⟨rfl, rfl⟩⟩
def PreS (w : World) (b B4 B6 : Nat) (D : Dev) (X : World) : Prop := rowIs X B4 22 = true ∧ rowIs X B6 22 = true ∧ PlicAt X b D ∧ w.grownBy X (some b)
theorem preS {w X Y : World} {b B4 B6 : Nat} {D : Dev} (h : PreS w b B4 B6 D X) (hb : Below X.heap.size X Y) : PreS w b B4 B6 D Y := by
  obtain ⟨h1, h3, h4, h5⟩ := h
  refine ⟨?_, ?_, blk_below hb (blk_lt h4) h4, grown_trans h5 (below_grown hb _)⟩
  · rw [(row_below hb (rowIs_lt h1)).2]; exact h1
  · rw [(row_below hb (rowIs_lt h3)).2]; exact h3
theorem stepS_set {w X : World} {b B4 B6 : Nat} {D : Dev} (h : StepS w b B4 B6 D X) (h6b : B6 ≠ b) (h46 : B4 ≠ B6) (hw : w.heap.size ≤ B6) : StepS w b B4 B6 D (X.setRow B6 D.cells) := by
  obtain ⟨h1, h2, h3, h5, h6⟩ := h
  refine ⟨?_, ?_, ?_, ?_, ?_⟩
  · rw [is_setRow_other _ _ _ _ _ h46]; exact h1
  · rw [row_setRow_other _ _ _ _ h46]; exact h2
  · rw [is_setRow_same _ _ 22 _ _ h3]; rfl
  · exact (setRow_other X B6 b D.cells (fun e => h6b e.symm)).trans h5
  · exact ⟨h6.os, h6.tape, h6.output, Nat.le_trans h6.size (by simp), fun k hk hne => (setRow_other X B6 k D.cells (by omega)).trans (h6.block k hk hne)⟩
theorem shownS {w X : World} {b B4 B6 : Nat} {D : Dev} (h : PreS w b B4 B6 D X) (h4 : B4 ≠ b) (h46 : B6 ≠ B4) (hw : w.heap.size ≤ B4) : StepS w b B4 B6 D (X.setRow B4 D.cells).drew := by
  obtain ⟨h1, h3, h5, h6⟩ := h
  refine ⟨?_, ?_, ?_, ?_, ?_⟩
  · rw [is_drew, is_setRow_same _ _ 22 _ _ h1]; rfl
  · rw [row_drew, row_setRow_same _ _ 22 _ h1]
  · rw [is_drew, is_setRow_other _ _ _ _ _ h46]; exact h3
  · exact (setRow_other X B4 b D.cells (fun e => h4 e.symm)).trans h5
  · exact ⟨h6.os, h6.tape, h6.output, Nat.le_trans h6.size (by simp), fun k hk hne => (setRow_other X B4 k D.cells (by omega)).trans (h6.block k hk hne)⟩
theorem base3 (w : World) (a b c : Obj) : Below w.heap.size w (((w.alloc a).alloc b).alloc c) := (((Below.refl _ _).alloc (Nat.le_refl _) _).alloc (by simp) _).alloc (by simp; first | done | omega) _
/-- the three blocks that the call makes first -/
theorem three {w w1 : World} {b : Nat} {x y z : Array Value} {t u v : TypeId} (h : (((w.alloc (.cells x t)).alloc (.cells y u)).alloc (.cells z v)).grownBy w1 (some b)) (hb : b < w.heap.size) :
    w1.heap[w.heap.size]? = some (.cells x t (0, 0)) ∧ w1.heap[w.heap.size + 1]? = some (.cells y u (0, 0)) ∧ w1.heap[w.heap.size + 1 + 1]? = some (.cells z v (0, 0)) ∧ w.grownBy w1 (some b) := by
  refine ⟨?_, ?_, ?_, grown_trans (below_grown (base3 w _ _ _) _) h⟩
  · rw [h.block _ (by simp; omega) (by simp; omega), blk_alloc_old _ _ _ (by simp; try omega), blk_alloc_old _ _ _ (by simp), blk_alloc]
  · rw [h.block _ (by simp) (by simp; omega), blk_alloc_old _ _ _ (by simp)]
    have := blk_alloc (w.alloc (.cells x t)) (.cells y u)
    simpa using this
  · rw [h.block _ (by simp) (by simp; omega)]
    have := blk_alloc ((w.alloc (.cells x t)).alloc (.cells y u)) (.cells z v)
    simpa using this
set_option maxRecDepth 100000 in
set_option maxHeartbeats 16000000 in
theorem plic_step1 (d : Dev) (hd : d.Ok) (b : Nat) (off v size : Int) (o0 : 0 ≤ off) (v0 : 0 ≤ v) (v1 : v < 18446744073709551616) (w : World) (hp : PlicAt w b d) (D : Dev) (hD : D = (d.read off size).2.2) (hDD : D.Ok) (hrx : D.rxa = none ∧ D.rxl = 0 ∧ D.txa = none ∧ D.txl = 0) :
    Calls Try.prog 31 #[.pointer (some ⟨b, 0, none⟩), .agg d.cells, .agg #[.int .i64 1, .int .u64 off, .int .u64 v, .int .i64 size]] w (Stepped w b D) := by
  have HOK := Lib.hid hd
  have HDD := Lib.hid hDD
  have HP := Lib.hid hp
  have HRX := Lib.hid hrx
  have HDN := Lib.hid hD
  have hbl : b < w.heap.size := blk_lt hp
  clear hd hp hDD hrx hD
  go_enter Try.func31, Try.ntmps31
  go_wp2_with fail
  refine (plic_read_any d HOK.out off size b _ (blk_below (base3 w _ _ _) hbl HP.out)).mono ?_
  rintro e w1 ⟨rfl, hset⟩
  obtain ⟨h4, h5, h6, hg⟩ := three hset.2 hbl
  have r4 : rowIs w1 w.heap.size 22 = true := rowIs_of h4
  have o4 : rowOf w1 w.heap.size = d.cells := rowOf_of h4
  have c51 : w1.cell? ⟨w.heap.size + 1, 1, none⟩ = some (.int .u64 off) := blk_cell h5 1
  have c53 : w1.cell? ⟨w.heap.size + 1, 3, none⟩ = some (.int .i64 size) := blk_cell h5 3
  have r6 : rowIs w1 (w.heap.size + 1 + 1) 22 = true := rowIs_of h6
  have l4 : w.heap.size + 1 + 1 < w1.heap.size := blk_lt h6
  have HG := Lib.hid hg
  have HS := Lib.hid hset.1
  have H4 := Lib.hid h4
  have H6 := Lib.hid h6
  clear hset h4 h5 h6 hg
  go_wp2_with fail
  refine (refp_read_any d HOK.out off size o0 _).mono ?_
  rintro e w2 ⟨rfl, hb⟩
  have r4 : rowIs w2 w.heap.size 22 = true := by rw [(row_below hb (by omega)).2]; exact r4
  have r6 : rowIs w2 (w.heap.size + 1 + 1) 22 = true := by rw [(row_below hb (by omega)).2]; exact r6
  have l4' : w.heap.size + 1 + 1 < w2.heap.size := Nat.lt_of_lt_of_le l4 hb.size
  have HB := Lib.hid hb
  have HSH : Hid (∀ o, StepS w b w.heap.size (w.heap.size + 1 + 1) D (((w2.alloc o).setRow w.heap.size D.cells).drew)) := fun o => shownS (preS (preS (⟨rowIs_of H4.out, rowIs_of H6.out, HS.out, HG.out⟩ : PreS w b w.heap.size (w.heap.size + 1 + 1) (d.read off size).2.2 w1) HB.out |> fun h => by rw [HDN.out]; exact h) ((Below.refl _ _).alloc (Nat.le_refl _) o)) (by omega) (by omega) (Nat.le_refl _)
  clear hb o4 c51 c53
  go_wp2_with fail
  rw [← HDN.out]
  refine wp_region_held_drew (S := fun wq => rowIs wq w.heap.size 22 = true ∧ rowOf wq w.heap.size = D.cells ∧ rowIs wq (w.heap.size + 1 + 1) 22 = true ∧ PlicAt wq b D ∧ w.grownBy wq (some b)) (by kernel_rfl) ?_ (fun hH => ?_)
  · exact HSH.out _
  refine wpAnyH_take (i := 0) (oi := ⟨some 82, _, _, _, _, _⟩) (v := ?_) rfl (by kernel_rfl) (by kernel_rfl) (by kernel_rfl) (fun _ _ _ h => h) (Or.inl ⟨by kernel_rfl, ?_⟩) hH ?_
  rotate_left 1
  · intro wq hq; obtain ⟨hq1, hq2, hq3, hq4, hq5⟩ := hq; first | (go_simp; done) | (go_simp; with_reducible rfl)
  simp only [Act.put, List.setIfInBounds_toArray, List.set_cons_zero, List.set_cons_succ]
  refine wpAnyH_take (i := 1) (oi := ⟨some 83, _, _, _, _, _⟩) (v := ?_) rfl (by kernel_rfl) (by kernel_rfl) (by kernel_rfl) (fun _ _ _ h => h) (Or.inl ⟨by kernel_rfl, ?_⟩) hH ?_
  rotate_left 1
  · intro wq hq; obtain ⟨hq1, hq2, hq3, hq4, hq5⟩ := hq; first | (go_simp; done) | (go_simp; with_reducible rfl)
  simp only [Act.put, List.setIfInBounds_toArray, List.set_cons_zero, List.set_cons_succ]
  refine wpAnyH_take (i := 2) (oi := ⟨some 84, _, _, _, _, _⟩) (v := ?_) rfl (by kernel_rfl) (by kernel_rfl) (by kernel_rfl) (fun _ _ _ h => h) (Or.inl ⟨by kernel_rfl, ?_⟩) hH ?_
  rotate_left 1
  · intro wq hq; obtain ⟨hq1, hq2, hq3, hq4, hq5⟩ := hq; first | (go_simp; done) | (go_simp; with_reducible rfl)
  simp only [Act.put, List.setIfInBounds_toArray, List.set_cons_zero, List.set_cons_succ]
  refine wpAnyH_take (i := 3) (oi := ⟨some 85, _, _, _, _, _⟩) (v := ?_) rfl (by kernel_rfl) (by kernel_rfl) (by kernel_rfl) (fun _ _ _ h => h) (Or.inl ⟨by kernel_rfl, ?_⟩) hH ?_
  rotate_left 1
  · intro wq hq; obtain ⟨hq1, hq2, hq3, hq4, hq5⟩ := hq; first | (go_simp; done) | (go_simp; with_reducible rfl)
  simp only [Act.put, List.setIfInBounds_toArray, List.set_cons_zero, List.set_cons_succ]
  refine wpAnyH_take (i := 5) (oi := ⟨some 87, _, _, _, _, _⟩) (v := ?_) rfl (by kernel_rfl) (by kernel_rfl) (by kernel_rfl) (fun _ _ _ h => h) (Or.inl ⟨by kernel_rfl, ?_⟩) hH ?_
  rotate_left 1
  · intro wq hq; obtain ⟨hq1, hq2, hq3, hq4, hq5⟩ := hq; first | (go_simp; done) | (go_simp; with_reducible rfl)
  simp only [Act.put, List.setIfInBounds_toArray, List.set_cons_zero, List.set_cons_succ]
  refine wpAnyH_ready (rs := [4]) (by kernel_rfl) (by simp) (AllReadyH.cons (o := ⟨some 86, _, _, _, _, _⟩) rfl (fun K hK => ?_) AllReadyH.nil)
  go_simp
  refine (plic_lines D HDD.out b _ hH.2.2.2.1).mono ?_
  rintro e wa ⟨rfl, na, rfl⟩
  go_wp2_with fail
  refine hK.out _ _ ?_ (fun hH => ?_)
  · exact stepS hH ⟨rfl, rfl, rfl, Nat.le_refl _, fun _ _ => rfl⟩
  clear hK K
  try simp only [Act.put, List.setIfInBounds_toArray, List.set_cons_zero, List.set_cons_succ]
  refine wpAnyH_ready (rs := [6]) (by kernel_rfl) (by simp) (AllReadyH.cons (o := ⟨some 88, _, _, _, _, _⟩) rfl (fun K hK => ?_) AllReadyH.nil)
  go_simp
  refine (refp_lines D HDD.out _).mono ?_
  rintro e wa ⟨rfl, ha⟩
  go_wp2_with fail
  refine hK.out _ _ ?_ (fun hH => ?_)
  · exact stepS hH ha
  clear hK K
  try simp only [Act.put, List.setIfInBounds_toArray, List.set_cons_zero, List.set_cons_succ]
  refine wpAnyH_take (i := 7) (oi := ⟨some 89, _, _, _, _, _⟩) (v := ?_) rfl (by kernel_rfl) (by kernel_rfl) (by kernel_rfl) (fun _ _ _ h => h) (Or.inl ⟨by kernel_rfl, ?_⟩) hH ?_
  rotate_left 1
  · intro wq hq; obtain ⟨hq1, hq2, hq3, hq4, hq5⟩ := hq; first | (go_simp; done) | (go_simp; with_reducible rfl)
  simp only [Act.put, List.setIfInBounds_toArray, List.set_cons_zero, List.set_cons_succ]
  refine wpAnyH_take (i := 8) (oi := ⟨some 90, _, _, _, _, _⟩) (v := ?_) rfl (by kernel_rfl) (by kernel_rfl) (by kernel_rfl) (fun _ _ _ h => h) (Or.inl ⟨by kernel_rfl, ?_⟩) hH ?_
  rotate_left 1
  · intro wq hq; obtain ⟨hq1, hq2, hq3, hq4, hq5⟩ := hq; first | (go_simp; done) | (go_simp; with_reducible rfl)
  simp only [Act.put, List.setIfInBounds_toArray, List.set_cons_zero, List.set_cons_succ]
  refine wpAnyH_take (i := 9) (oi := ⟨some 91, _, _, _, _, _⟩) (v := ?_) rfl (by kernel_rfl) (by kernel_rfl) (by kernel_rfl) (fun _ _ _ h => h) (Or.inl ⟨by kernel_rfl, ?_⟩) hH ?_
  rotate_left 1
  · intro wq hq; obtain ⟨hq1, hq2, hq3, hq4, hq5⟩ := hq; first | (go_simp; done) | (go_simp; with_reducible rfl)
  simp only [Act.put, List.setIfInBounds_toArray, List.set_cons_zero, List.set_cons_succ]
  refine wpAnyH_take (i := 10) (oi := ⟨some 92, _, _, _, _, _⟩) (v := ?_) rfl (by kernel_rfl) (by kernel_rfl) (by kernel_rfl) (fun _ _ _ h => h) (Or.inl ⟨by kernel_rfl, ?_⟩) hH ?_
  rotate_left 1
  · intro wq hq; obtain ⟨hq1, hq2, hq3, hq4, hq5⟩ := hq; first | (go_simp; done) | (go_simp; with_reducible rfl)
  simp only [Act.put, List.setIfInBounds_toArray, List.set_cons_zero, List.set_cons_succ]
  refine wpAnyH_take (i := 12) (oi := ⟨some 94, _, _, _, _, _⟩) (v := ?_) rfl (by kernel_rfl) (by kernel_rfl) (by kernel_rfl) (fun _ _ _ h => h) (Or.inl ⟨by kernel_rfl, ?_⟩) hH ?_
  rotate_left 1
  · intro wq hq; obtain ⟨hq1, hq2, hq3, hq4, hq5⟩ := hq; first | (go_simp; done) | (go_simp; with_reducible rfl)
  simp only [Act.put, List.setIfInBounds_toArray, List.set_cons_zero, List.set_cons_succ]
  refine wpAnyH_ready (rs := [11]) (by kernel_rfl) (by simp) (AllReadyH.cons (o := ⟨some 93, _, _, _, _, _⟩) rfl (fun K hK => ?_) AllReadyH.nil)
  go_simp
  refine (plic_best D HDD.out b 0 (by omega) _ hH.2.2.2.1).mono ?_
  rintro e wa ⟨rfl, na, rfl⟩
  go_wp2_with fail
  refine hK.out _ _ ?_ (fun hH => ?_)
  · exact stepS hH ⟨rfl, rfl, rfl, Nat.le_refl _, fun _ _ => rfl⟩
  clear hK K
  try simp only [Act.put, List.setIfInBounds_toArray, List.set_cons_zero, List.set_cons_succ]
  refine wpAnyH_ready (rs := [13]) (by kernel_rfl) (by simp) (AllReadyH.cons (o := ⟨some 95, _, _, _, _, _⟩) rfl (fun K hK => ?_) AllReadyH.nil)
  go_simp
  refine (ref_best D HDD.out 0 (by omega) _).mono ?_
  rintro e wa ⟨rfl, ha⟩
  go_wp2_with fail
  refine hK.out _ _ ?_ (fun hH => ?_)
  · exact stepS hH ha
  clear hK K
  try simp only [Act.put, List.setIfInBounds_toArray, List.set_cons_zero, List.set_cons_succ]
  refine wpAnyH_take (i := 14) (oi := ⟨some 96, _, _, _, _, _⟩) (v := ?_) rfl (by kernel_rfl) (by kernel_rfl) (by kernel_rfl) (fun _ _ _ h => h) (Or.inl ⟨by kernel_rfl, ?_⟩) hH ?_
  rotate_left 1
  · intro wq hq; obtain ⟨hq1, hq2, hq3, hq4, hq5⟩ := hq; first | (go_simp; done) | (go_simp; with_reducible rfl)
  simp only [Act.put, List.setIfInBounds_toArray, List.set_cons_zero, List.set_cons_succ]
  refine wpAnyH_take (i := 15) (oi := ⟨some 97, _, _, _, _, _⟩) (v := ?_) rfl (by kernel_rfl) (by kernel_rfl) (by kernel_rfl) (fun _ _ _ h => h) (Or.inl ⟨by kernel_rfl, ?_⟩) hH ?_
  rotate_left 1
  · intro wq hq; obtain ⟨hq1, hq2, hq3, hq4, hq5⟩ := hq; first | (go_simp; done) | (go_simp; with_reducible rfl)
  simp only [Act.put, List.setIfInBounds_toArray, List.set_cons_zero, List.set_cons_succ]
  refine wpAnyH_take (i := 16) (oi := ⟨some 98, _, _, _, _, _⟩) (v := ?_) rfl (by kernel_rfl) (by kernel_rfl) (by kernel_rfl) (fun _ _ _ h => h) (Or.inl ⟨by kernel_rfl, ?_⟩) hH ?_
  rotate_left 1
  · intro wq hq; obtain ⟨hq1, hq2, hq3, hq4, hq5⟩ := hq; first | (go_simp; done) | (go_simp; with_reducible rfl)
  simp only [Act.put, List.setIfInBounds_toArray, List.set_cons_zero, List.set_cons_succ]
  refine wpAnyH_take (i := 17) (oi := ⟨some 99, _, _, _, _, _⟩) (v := ?_) rfl (by kernel_rfl) (by kernel_rfl) (by kernel_rfl) (fun _ _ _ h => h) (Or.inl ⟨by kernel_rfl, ?_⟩) hH ?_
  rotate_left 1
  · intro wq hq; obtain ⟨hq1, hq2, hq3, hq4, hq5⟩ := hq; first | (go_simp; done) | (go_simp; with_reducible rfl)
  simp only [Act.put, List.setIfInBounds_toArray, List.set_cons_zero, List.set_cons_succ]
  refine wpAnyH_take (i := 19) (oi := ⟨some 101, _, _, _, _, _⟩) (v := ?_) rfl (by kernel_rfl) (by kernel_rfl) (by kernel_rfl) (fun _ _ _ h => h) (Or.inl ⟨by kernel_rfl, ?_⟩) hH ?_
  rotate_left 1
  · intro wq hq; obtain ⟨hq1, hq2, hq3, hq4, hq5⟩ := hq; first | (go_simp; done) | (go_simp; with_reducible rfl)
  simp only [Act.put, List.setIfInBounds_toArray, List.set_cons_zero, List.set_cons_succ]
  refine wpAnyH_ready (rs := [18]) (by kernel_rfl) (by simp) (AllReadyH.cons (o := ⟨some 100, _, _, _, _, _⟩) rfl (fun K hK => ?_) AllReadyH.nil)
  go_simp
  refine (plic_best D HDD.out b 1 (by omega) _ hH.2.2.2.1).mono ?_
  rintro e wa ⟨rfl, na, rfl⟩
  go_wp2_with fail
  refine hK.out _ _ ?_ (fun hH => ?_)
  · exact stepS hH ⟨rfl, rfl, rfl, Nat.le_refl _, fun _ _ => rfl⟩
  clear hK K
  try simp only [Act.put, List.setIfInBounds_toArray, List.set_cons_zero, List.set_cons_succ]
  refine wpAnyH_ready (rs := [20]) (by kernel_rfl) (by simp) (AllReadyH.cons (o := ⟨some 102, _, _, _, _, _⟩) rfl (fun K hK => ?_) AllReadyH.nil)
  go_simp
  refine (ref_best D HDD.out 1 (by omega) _).mono ?_
  rintro e wa ⟨rfl, ha⟩
  go_wp2_with fail
  refine hK.out _ _ ?_ (fun hH => ?_)
  · exact stepS hH ha
  clear hK K
  try simp only [Act.put, List.setIfInBounds_toArray, List.set_cons_zero, List.set_cons_succ]
  refine wpAnyH_take (i := 21) (oi := ⟨some 103, _, _, _, _, _⟩) (v := ?_) rfl (by kernel_rfl) (by kernel_rfl) (by kernel_rfl) (fun _ _ _ h => h) (Or.inl ⟨by kernel_rfl, ?_⟩) hH ?_
  rotate_left 1
  · intro wq hq; obtain ⟨hq1, hq2, hq3, hq4, hq5⟩ := hq; first | (go_simp; done) | (go_simp; with_reducible rfl)
  simp only [Act.put, List.setIfInBounds_toArray, List.set_cons_zero, List.set_cons_succ]
  refine wpAnyH_take (i := 22) (oi := ⟨some 104, _, _, _, _, _⟩) (v := ?_) rfl (by kernel_rfl) (by kernel_rfl) (by kernel_rfl) (fun _ _ _ h => h) (Or.inl ⟨by kernel_rfl, ?_⟩) hH ?_
  rotate_left 1
  · intro wq hq; obtain ⟨hq1, hq2, hq3, hq4, hq5⟩ := hq; first | (go_simp; done) | (go_simp; with_reducible rfl)
  simp only [Act.put, List.setIfInBounds_toArray, List.set_cons_zero, List.set_cons_succ]
  refine wpAnyH_take (i := 23) (oi := ⟨some 105, _, _, _, _, _⟩) (v := ?_) rfl (by kernel_rfl) (by kernel_rfl) (by kernel_rfl) (fun _ _ _ h => h) (Or.inl ⟨by kernel_rfl, ?_⟩) hH ?_
  rotate_left 1
  · intro wq hq; obtain ⟨hq1, hq2, hq3, hq4, hq5⟩ := hq; first | (go_simp; done) | (go_simp; with_reducible rfl)
  simp only [Act.put, List.setIfInBounds_toArray, List.set_cons_zero, List.set_cons_succ]
  refine wpAnyH_take (i := 24) (oi := ⟨some 106, _, _, _, _, _⟩) (v := ?_) rfl (by kernel_rfl) (by kernel_rfl) (by kernel_rfl) (fun _ _ _ h => h) (Or.inl ⟨by kernel_rfl, ?_⟩) hH ?_
  rotate_left 1
  · intro wq hq; obtain ⟨hq1, hq2, hq3, hq4, hq5⟩ := hq; first | (go_simp; done) | (go_simp; with_reducible rfl)
  simp only [Act.put, List.setIfInBounds_toArray, List.set_cons_zero, List.set_cons_succ]
  refine wpAnyH_take (i := 26) (oi := ⟨some 108, _, _, _, _, _⟩) (v := ?_) rfl (by kernel_rfl) (by kernel_rfl) (by kernel_rfl) (fun _ _ _ h => h) (Or.inl ⟨by kernel_rfl, ?_⟩) hH ?_
  rotate_left 1
  · intro wq hq; obtain ⟨hq1, hq2, hq3, hq4, hq5⟩ := hq; first | (go_simp; done) | (go_simp; with_reducible rfl)
  simp only [Act.put, List.setIfInBounds_toArray, List.set_cons_zero, List.set_cons_succ]
  refine wpAnyH_take (i := 27) (oi := ⟨some 109, _, _, _, _, _⟩) (v := ?_) rfl (by kernel_rfl) (by kernel_rfl) (by kernel_rfl) (fun _ _ _ h => h) (Or.inl ⟨by kernel_rfl, ?_⟩) hH ?_
  rotate_left 1
  · intro wq hq; obtain ⟨hq1, hq2, hq3, hq4, hq5⟩ := hq; first | (go_simp; done) | (go_simp; with_reducible rfl)
  simp only [Act.put, List.setIfInBounds_toArray, List.set_cons_zero, List.set_cons_succ]
  refine wpAnyH_ready (rs := [25]) (by kernel_rfl) (by simp) (AllReadyH.cons (o := ⟨some 107, _, _, _, _, _⟩) rfl (fun K hK => ?_) AllReadyH.nil)
  go_simp
  refine (plic_state D b _ hH.2.2.2.1).mono ?_
  rintro e wa ⟨rfl, ha⟩
  go_wp2_with fail
  refine hK.out _ _ ?_ (fun hH => ?_)
  · exact stepS hH ha
  clear hK K
  try simp only [Act.put, List.setIfInBounds_toArray, List.set_cons_zero, List.set_cons_succ]
  refine wpAnyH_ready (rs := [28]) (by kernel_rfl) (by simp) (AllReadyH.cons (o := ⟨some 110, _, _, _, _, _⟩) rfl (fun K hK => ?_) AllReadyH.nil)
  go_simp
  refine (same_devices D _ [] [] (isB_nil _ HRX.out.1 HRX.out.2.1) (isB_nil _ HRX.out.2.2.1 HRX.out.2.2.2)).mono ?_
  rintro e wa ⟨rfl, ha⟩
  go_wp2_with fail
  refine hK.out _ _ ?_ (fun hH => ?_)
  · exact stepS hH ha
  clear hK K
  try simp only [Act.put, List.setIfInBounds_toArray, List.set_cons_zero, List.set_cons_succ]
  refine wpAnyH_take (i := 29) (oi := ⟨some 111, _, _, _, _, _⟩) (v := ?_) rfl (by kernel_rfl) (by kernel_rfl) (by kernel_rfl) (fun _ _ _ h => h) (Or.inl ⟨by kernel_rfl, ?_⟩) hH ?_
  rotate_left 1
  · intro wq hq; obtain ⟨hq1, hq2, hq3, hq4, hq5⟩ := hq; first | (go_simp; done) | (go_simp; with_reducible rfl)
  simp only [Act.put, List.setIfInBounds_toArray, List.set_cons_zero, List.set_cons_succ]
  refine wpAnyH_ready (rs := [30]) (by kernel_rfl) (by simp) (AllReadyH.cons (o := ⟨none, _, _, _, _, _⟩) rfl (fun K hK => ?_) AllReadyH.nil)
  have g6 := hH.2.2.1
  go_simp
  refine hK.out _ _ ?_ (fun hH => ?_)
  · exact stepS_set hH (by omega) (by omega) (by omega)
  clear hK K
  try simp only [Act.put, List.setIfInBounds_toArray, List.set_cons_zero, List.set_cons_succ]
  refine wpAnyH_take (i := 31) (oi := ⟨some 7, _, _, _, _, _⟩) (v := ?_) rfl (by kernel_rfl) (by kernel_rfl) (by kernel_rfl) (fun _ _ _ h => h) (Or.inl ⟨by kernel_rfl, ?_⟩) hH ?_
  rotate_left 1
  · intro wq hq; obtain ⟨hq1, hq2, hq3, hq4, hq5⟩ := hq; first | (go_simp; done) | (go_simp; with_reducible rfl)
  simp only [Act.put, List.setIfInBounds_toArray, List.set_cons_zero, List.set_cons_succ]
  refine wpAnyH_done (by kernel_rfl) ?_ _
  go_wp2_with fail
  exact bodyPost_ret (res_ct _ _ _ _ _ rfl (lvs_ref _ _ _ g6 rfl) rfl) rfl ⟨rfl, hH.2.2.2.1, hH.2.2.2.2⟩
theorem row_grown {w w' : World} {b g : Nat} (h : w.grownBy w' (some b)) (hg : g < w.heap.size) (hne : g ≠ b) : rowOf w' g = rowOf w g ∧ (∀ n, rowIs w' g n = rowIs w g n) ∧ ∀ o, w'.cell? ⟨g, o, none⟩ = w.cell? ⟨g, o, none⟩ := by
  have e := h.block g hg (by intro e; exact hne (Option.some.inj e))
  exact ⟨by unfold rowOf; rw [e], fun _ => by unfold rowIs; rw [e], fun _ => by unfold World.cell?; simp only [e]⟩
theorem cell_setRow_other (w : World) (g k o : Nat) (C : Array Value) (h : k ≠ g) : (w.setRow g C).cell? ⟨k, o, none⟩ = w.cell? ⟨k, o, none⟩ := by
  unfold World.cell?
  simp only [setRow_other w g k C h]
theorem tickS {w X : World} {b B4 B6 : Nat} {D : Dev} (h : PreS w b B4 B6 D X) (h4 : B4 ≠ b) (h46 : B6 ≠ B4) (hw : w.heap.size ≤ B4) : StepS w b B4 B6 D (X.setRow B4 D.cells).drew := shownS h h4 h46 hw
set_option maxRecDepth 100000 in
set_option maxHeartbeats 16000000 in
theorem plic_step3 (d : Dev) (hd : d.Ok) (b : Nat) (off v size : Int) (o0 : 0 ≤ off) (v0 : 0 ≤ v) (v1 : v < 18446744073709551616) (w : World) (hp : PlicAt w b d) (k : Int) (k1 : (k == 1) = false) (k2 : (k == 2) = false) (D : Dev) (hD : D = d.tick (v % 4294967296).toNat) (hDD : D.Ok) (hrx : D.rxa = none ∧ D.rxl = 0 ∧ D.txa = none ∧ D.txl = 0) :
    Calls Try.prog 31 #[.pointer (some ⟨b, 0, none⟩), .agg d.cells, .agg #[.int .i64 k, .int .u64 off, .int .u64 v, .int .i64 size]] w (Stepped w b D) := by
  have HOK := Lib.hid hd
  have HDD := Lib.hid hDD
  have HP := Lib.hid hp
  have HRX := Lib.hid hrx
  have HDN := Lib.hid hD
  have hbl : b < w.heap.size := blk_lt hp
  clear hd hp hDD hrx hD
  go_enter Try.func31, Try.ntmps31
  obtain ⟨l, hl⟩ := Int.eq_ofNat_of_zero_le (show 0 ≤ v % 4294967296 by omega)
  have hwl : IntKind.u32.wrap v = (l : Int) := by rw [IntKind.wrap_u32]; omega
  have hl2 : Hid (l < 2 ^ 32) := by show l < 4294967296; omega
  have hD3 : Hid (D = d.tick l) := by have := HDN.out; rw [hl] at this; exact this
  clear hl
  go_wp2_with fail
  refine (plic_tick d HOK.out b l hl2.out _ (blk_below (base3 w _ _ _) hbl HP.out)).mono ?_
  rintro e w1 ⟨rfl, hset⟩
  obtain ⟨h4, h5, h6, hg⟩ := three hset.2 hbl
  have r4 : rowIs w1 w.heap.size 22 = true := rowIs_of h4
  have o4 : rowOf w1 w.heap.size = d.cells := rowOf_of h4
  have c52 : w1.cell? ⟨w.heap.size + 1, 2, none⟩ = some (.int .u64 v) := blk_cell h5 2
  have r6 : rowIs w1 (w.heap.size + 1 + 1) 22 = true := rowIs_of h6
  have l4 : w.heap.size + 1 + 1 < w1.heap.size := blk_lt h6
  have HPRE := Lib.hid (⟨r4, r6, hset.1, hg⟩ : PreS w b w.heap.size (w.heap.size + 1 + 1) (d.tick l) w1)
  clear hset h4 h5 h6 hg
  go_wp2_with fail
  refine (ref_tick d HOK.out l hl2.out _).mono ?_
  rintro e w2 ⟨rfl, hb⟩
  have r4 : rowIs w2 w.heap.size 22 = true := by rw [(row_below hb (by omega)).2]; exact r4
  have HSH : Hid (StepS w b w.heap.size (w.heap.size + 1 + 1) D ((w2.setRow w.heap.size D.cells).drew)) := shownS (by rw [hD3.out]; exact preS HPRE.out hb) (by omega) (by omega) (Nat.le_refl _)
  clear hb o4 c52 HPRE
  go_wp2_with fail
  rw [← hD3.out]
  refine wp_region_held_drew (S := fun wq => rowIs wq w.heap.size 22 = true ∧ rowOf wq w.heap.size = D.cells ∧ rowIs wq (w.heap.size + 1 + 1) 22 = true ∧ PlicAt wq b D ∧ w.grownBy wq (some b)) (by kernel_rfl) ?_ (fun hH => ?_)
  · exact HSH.out
  refine wpAnyH_take (i := 0) (oi := ⟨some 82, _, _, _, _, _⟩) (v := ?_) rfl (by kernel_rfl) (by kernel_rfl) (by kernel_rfl) (fun _ _ _ h => h) (Or.inl ⟨by kernel_rfl, ?_⟩) hH ?_
  rotate_left 1
  · intro wq hq; obtain ⟨hq1, hq2, hq3, hq4, hq5⟩ := hq; first | (go_simp; done) | (go_simp; with_reducible rfl)
  simp only [Act.put, List.setIfInBounds_toArray, List.set_cons_zero, List.set_cons_succ]
  refine wpAnyH_take (i := 1) (oi := ⟨some 83, _, _, _, _, _⟩) (v := ?_) rfl (by kernel_rfl) (by kernel_rfl) (by kernel_rfl) (fun _ _ _ h => h) (Or.inl ⟨by kernel_rfl, ?_⟩) hH ?_
  rotate_left 1
  · intro wq hq; obtain ⟨hq1, hq2, hq3, hq4, hq5⟩ := hq; first | (go_simp; done) | (go_simp; with_reducible rfl)
  simp only [Act.put, List.setIfInBounds_toArray, List.set_cons_zero, List.set_cons_succ]
  refine wpAnyH_take (i := 2) (oi := ⟨some 84, _, _, _, _, _⟩) (v := ?_) rfl (by kernel_rfl) (by kernel_rfl) (by kernel_rfl) (fun _ _ _ h => h) (Or.inl ⟨by kernel_rfl, ?_⟩) hH ?_
  rotate_left 1
  · intro wq hq; obtain ⟨hq1, hq2, hq3, hq4, hq5⟩ := hq; first | (go_simp; done) | (go_simp; with_reducible rfl)
  simp only [Act.put, List.setIfInBounds_toArray, List.set_cons_zero, List.set_cons_succ]
  refine wpAnyH_take (i := 3) (oi := ⟨some 85, _, _, _, _, _⟩) (v := ?_) rfl (by kernel_rfl) (by kernel_rfl) (by kernel_rfl) (fun _ _ _ h => h) (Or.inl ⟨by kernel_rfl, ?_⟩) hH ?_
  rotate_left 1
  · intro wq hq; obtain ⟨hq1, hq2, hq3, hq4, hq5⟩ := hq; first | (go_simp; done) | (go_simp; with_reducible rfl)
  simp only [Act.put, List.setIfInBounds_toArray, List.set_cons_zero, List.set_cons_succ]
  refine wpAnyH_take (i := 5) (oi := ⟨some 87, _, _, _, _, _⟩) (v := ?_) rfl (by kernel_rfl) (by kernel_rfl) (by kernel_rfl) (fun _ _ _ h => h) (Or.inl ⟨by kernel_rfl, ?_⟩) hH ?_
  rotate_left 1
  · intro wq hq; obtain ⟨hq1, hq2, hq3, hq4, hq5⟩ := hq; first | (go_simp; done) | (go_simp; with_reducible rfl)
  simp only [Act.put, List.setIfInBounds_toArray, List.set_cons_zero, List.set_cons_succ]
  refine wpAnyH_ready (rs := [4]) (by kernel_rfl) (by simp) (AllReadyH.cons (o := ⟨some 86, _, _, _, _, _⟩) rfl (fun K hK => ?_) AllReadyH.nil)
  go_simp
  refine (plic_lines D HDD.out b _ hH.2.2.2.1).mono ?_
  rintro e wa ⟨rfl, na, rfl⟩
  go_wp2_with fail
  refine hK.out _ _ ?_ (fun hH => ?_)
  · exact stepS hH ⟨rfl, rfl, rfl, Nat.le_refl _, fun _ _ => rfl⟩
  clear hK K
  try simp only [Act.put, List.setIfInBounds_toArray, List.set_cons_zero, List.set_cons_succ]
  refine wpAnyH_ready (rs := [6]) (by kernel_rfl) (by simp) (AllReadyH.cons (o := ⟨some 88, _, _, _, _, _⟩) rfl (fun K hK => ?_) AllReadyH.nil)
  go_simp
  refine (refp_lines D HDD.out _).mono ?_
  rintro e wa ⟨rfl, ha⟩
  go_wp2_with fail
  refine hK.out _ _ ?_ (fun hH => ?_)
  · exact stepS hH ha
  clear hK K
  try simp only [Act.put, List.setIfInBounds_toArray, List.set_cons_zero, List.set_cons_succ]
  refine wpAnyH_take (i := 7) (oi := ⟨some 89, _, _, _, _, _⟩) (v := ?_) rfl (by kernel_rfl) (by kernel_rfl) (by kernel_rfl) (fun _ _ _ h => h) (Or.inl ⟨by kernel_rfl, ?_⟩) hH ?_
  rotate_left 1
  · intro wq hq; obtain ⟨hq1, hq2, hq3, hq4, hq5⟩ := hq; first | (go_simp; done) | (go_simp; with_reducible rfl)
  simp only [Act.put, List.setIfInBounds_toArray, List.set_cons_zero, List.set_cons_succ]
  refine wpAnyH_take (i := 8) (oi := ⟨some 90, _, _, _, _, _⟩) (v := ?_) rfl (by kernel_rfl) (by kernel_rfl) (by kernel_rfl) (fun _ _ _ h => h) (Or.inl ⟨by kernel_rfl, ?_⟩) hH ?_
  rotate_left 1
  · intro wq hq; obtain ⟨hq1, hq2, hq3, hq4, hq5⟩ := hq; first | (go_simp; done) | (go_simp; with_reducible rfl)
  simp only [Act.put, List.setIfInBounds_toArray, List.set_cons_zero, List.set_cons_succ]
  refine wpAnyH_take (i := 9) (oi := ⟨some 91, _, _, _, _, _⟩) (v := ?_) rfl (by kernel_rfl) (by kernel_rfl) (by kernel_rfl) (fun _ _ _ h => h) (Or.inl ⟨by kernel_rfl, ?_⟩) hH ?_
  rotate_left 1
  · intro wq hq; obtain ⟨hq1, hq2, hq3, hq4, hq5⟩ := hq; first | (go_simp; done) | (go_simp; with_reducible rfl)
  simp only [Act.put, List.setIfInBounds_toArray, List.set_cons_zero, List.set_cons_succ]
  refine wpAnyH_take (i := 10) (oi := ⟨some 92, _, _, _, _, _⟩) (v := ?_) rfl (by kernel_rfl) (by kernel_rfl) (by kernel_rfl) (fun _ _ _ h => h) (Or.inl ⟨by kernel_rfl, ?_⟩) hH ?_
  rotate_left 1
  · intro wq hq; obtain ⟨hq1, hq2, hq3, hq4, hq5⟩ := hq; first | (go_simp; done) | (go_simp; with_reducible rfl)
  simp only [Act.put, List.setIfInBounds_toArray, List.set_cons_zero, List.set_cons_succ]
  refine wpAnyH_take (i := 12) (oi := ⟨some 94, _, _, _, _, _⟩) (v := ?_) rfl (by kernel_rfl) (by kernel_rfl) (by kernel_rfl) (fun _ _ _ h => h) (Or.inl ⟨by kernel_rfl, ?_⟩) hH ?_
  rotate_left 1
  · intro wq hq; obtain ⟨hq1, hq2, hq3, hq4, hq5⟩ := hq; first | (go_simp; done) | (go_simp; with_reducible rfl)
  simp only [Act.put, List.setIfInBounds_toArray, List.set_cons_zero, List.set_cons_succ]
  refine wpAnyH_ready (rs := [11]) (by kernel_rfl) (by simp) (AllReadyH.cons (o := ⟨some 93, _, _, _, _, _⟩) rfl (fun K hK => ?_) AllReadyH.nil)
  go_simp
  refine (plic_best D HDD.out b 0 (by omega) _ hH.2.2.2.1).mono ?_
  rintro e wa ⟨rfl, na, rfl⟩
  go_wp2_with fail
  refine hK.out _ _ ?_ (fun hH => ?_)
  · exact stepS hH ⟨rfl, rfl, rfl, Nat.le_refl _, fun _ _ => rfl⟩
  clear hK K
  try simp only [Act.put, List.setIfInBounds_toArray, List.set_cons_zero, List.set_cons_succ]
  refine wpAnyH_ready (rs := [13]) (by kernel_rfl) (by simp) (AllReadyH.cons (o := ⟨some 95, _, _, _, _, _⟩) rfl (fun K hK => ?_) AllReadyH.nil)
  go_simp
  refine (ref_best D HDD.out 0 (by omega) _).mono ?_
  rintro e wa ⟨rfl, ha⟩
  go_wp2_with fail
  refine hK.out _ _ ?_ (fun hH => ?_)
  · exact stepS hH ha
  clear hK K
  try simp only [Act.put, List.setIfInBounds_toArray, List.set_cons_zero, List.set_cons_succ]
  refine wpAnyH_take (i := 14) (oi := ⟨some 96, _, _, _, _, _⟩) (v := ?_) rfl (by kernel_rfl) (by kernel_rfl) (by kernel_rfl) (fun _ _ _ h => h) (Or.inl ⟨by kernel_rfl, ?_⟩) hH ?_
  rotate_left 1
  · intro wq hq; obtain ⟨hq1, hq2, hq3, hq4, hq5⟩ := hq; first | (go_simp; done) | (go_simp; with_reducible rfl)
  simp only [Act.put, List.setIfInBounds_toArray, List.set_cons_zero, List.set_cons_succ]
  refine wpAnyH_take (i := 15) (oi := ⟨some 97, _, _, _, _, _⟩) (v := ?_) rfl (by kernel_rfl) (by kernel_rfl) (by kernel_rfl) (fun _ _ _ h => h) (Or.inl ⟨by kernel_rfl, ?_⟩) hH ?_
  rotate_left 1
  · intro wq hq; obtain ⟨hq1, hq2, hq3, hq4, hq5⟩ := hq; first | (go_simp; done) | (go_simp; with_reducible rfl)
  simp only [Act.put, List.setIfInBounds_toArray, List.set_cons_zero, List.set_cons_succ]
  refine wpAnyH_take (i := 16) (oi := ⟨some 98, _, _, _, _, _⟩) (v := ?_) rfl (by kernel_rfl) (by kernel_rfl) (by kernel_rfl) (fun _ _ _ h => h) (Or.inl ⟨by kernel_rfl, ?_⟩) hH ?_
  rotate_left 1
  · intro wq hq; obtain ⟨hq1, hq2, hq3, hq4, hq5⟩ := hq; first | (go_simp; done) | (go_simp; with_reducible rfl)
  simp only [Act.put, List.setIfInBounds_toArray, List.set_cons_zero, List.set_cons_succ]
  refine wpAnyH_take (i := 17) (oi := ⟨some 99, _, _, _, _, _⟩) (v := ?_) rfl (by kernel_rfl) (by kernel_rfl) (by kernel_rfl) (fun _ _ _ h => h) (Or.inl ⟨by kernel_rfl, ?_⟩) hH ?_
  rotate_left 1
  · intro wq hq; obtain ⟨hq1, hq2, hq3, hq4, hq5⟩ := hq; first | (go_simp; done) | (go_simp; with_reducible rfl)
  simp only [Act.put, List.setIfInBounds_toArray, List.set_cons_zero, List.set_cons_succ]
  refine wpAnyH_take (i := 19) (oi := ⟨some 101, _, _, _, _, _⟩) (v := ?_) rfl (by kernel_rfl) (by kernel_rfl) (by kernel_rfl) (fun _ _ _ h => h) (Or.inl ⟨by kernel_rfl, ?_⟩) hH ?_
  rotate_left 1
  · intro wq hq; obtain ⟨hq1, hq2, hq3, hq4, hq5⟩ := hq; first | (go_simp; done) | (go_simp; with_reducible rfl)
  simp only [Act.put, List.setIfInBounds_toArray, List.set_cons_zero, List.set_cons_succ]
  refine wpAnyH_ready (rs := [18]) (by kernel_rfl) (by simp) (AllReadyH.cons (o := ⟨some 100, _, _, _, _, _⟩) rfl (fun K hK => ?_) AllReadyH.nil)
  go_simp
  refine (plic_best D HDD.out b 1 (by omega) _ hH.2.2.2.1).mono ?_
  rintro e wa ⟨rfl, na, rfl⟩
  go_wp2_with fail
  refine hK.out _ _ ?_ (fun hH => ?_)
  · exact stepS hH ⟨rfl, rfl, rfl, Nat.le_refl _, fun _ _ => rfl⟩
  clear hK K
  try simp only [Act.put, List.setIfInBounds_toArray, List.set_cons_zero, List.set_cons_succ]
  refine wpAnyH_ready (rs := [20]) (by kernel_rfl) (by simp) (AllReadyH.cons (o := ⟨some 102, _, _, _, _, _⟩) rfl (fun K hK => ?_) AllReadyH.nil)
  go_simp
  refine (ref_best D HDD.out 1 (by omega) _).mono ?_
  rintro e wa ⟨rfl, ha⟩
  go_wp2_with fail
  refine hK.out _ _ ?_ (fun hH => ?_)
  · exact stepS hH ha
  clear hK K
  try simp only [Act.put, List.setIfInBounds_toArray, List.set_cons_zero, List.set_cons_succ]
  refine wpAnyH_take (i := 21) (oi := ⟨some 103, _, _, _, _, _⟩) (v := ?_) rfl (by kernel_rfl) (by kernel_rfl) (by kernel_rfl) (fun _ _ _ h => h) (Or.inl ⟨by kernel_rfl, ?_⟩) hH ?_
  rotate_left 1
  · intro wq hq; obtain ⟨hq1, hq2, hq3, hq4, hq5⟩ := hq; first | (go_simp; done) | (go_simp; with_reducible rfl)
  simp only [Act.put, List.setIfInBounds_toArray, List.set_cons_zero, List.set_cons_succ]
  refine wpAnyH_take (i := 22) (oi := ⟨some 104, _, _, _, _, _⟩) (v := ?_) rfl (by kernel_rfl) (by kernel_rfl) (by kernel_rfl) (fun _ _ _ h => h) (Or.inl ⟨by kernel_rfl, ?_⟩) hH ?_
  rotate_left 1
  · intro wq hq; obtain ⟨hq1, hq2, hq3, hq4, hq5⟩ := hq; first | (go_simp; done) | (go_simp; with_reducible rfl)
  simp only [Act.put, List.setIfInBounds_toArray, List.set_cons_zero, List.set_cons_succ]
  refine wpAnyH_take (i := 23) (oi := ⟨some 105, _, _, _, _, _⟩) (v := ?_) rfl (by kernel_rfl) (by kernel_rfl) (by kernel_rfl) (fun _ _ _ h => h) (Or.inl ⟨by kernel_rfl, ?_⟩) hH ?_
  rotate_left 1
  · intro wq hq; obtain ⟨hq1, hq2, hq3, hq4, hq5⟩ := hq; first | (go_simp; done) | (go_simp; with_reducible rfl)
  simp only [Act.put, List.setIfInBounds_toArray, List.set_cons_zero, List.set_cons_succ]
  refine wpAnyH_take (i := 24) (oi := ⟨some 106, _, _, _, _, _⟩) (v := ?_) rfl (by kernel_rfl) (by kernel_rfl) (by kernel_rfl) (fun _ _ _ h => h) (Or.inl ⟨by kernel_rfl, ?_⟩) hH ?_
  rotate_left 1
  · intro wq hq; obtain ⟨hq1, hq2, hq3, hq4, hq5⟩ := hq; first | (go_simp; done) | (go_simp; with_reducible rfl)
  simp only [Act.put, List.setIfInBounds_toArray, List.set_cons_zero, List.set_cons_succ]
  refine wpAnyH_take (i := 26) (oi := ⟨some 108, _, _, _, _, _⟩) (v := ?_) rfl (by kernel_rfl) (by kernel_rfl) (by kernel_rfl) (fun _ _ _ h => h) (Or.inl ⟨by kernel_rfl, ?_⟩) hH ?_
  rotate_left 1
  · intro wq hq; obtain ⟨hq1, hq2, hq3, hq4, hq5⟩ := hq; first | (go_simp; done) | (go_simp; with_reducible rfl)
  simp only [Act.put, List.setIfInBounds_toArray, List.set_cons_zero, List.set_cons_succ]
  refine wpAnyH_take (i := 27) (oi := ⟨some 109, _, _, _, _, _⟩) (v := ?_) rfl (by kernel_rfl) (by kernel_rfl) (by kernel_rfl) (fun _ _ _ h => h) (Or.inl ⟨by kernel_rfl, ?_⟩) hH ?_
  rotate_left 1
  · intro wq hq; obtain ⟨hq1, hq2, hq3, hq4, hq5⟩ := hq; first | (go_simp; done) | (go_simp; with_reducible rfl)
  simp only [Act.put, List.setIfInBounds_toArray, List.set_cons_zero, List.set_cons_succ]
  refine wpAnyH_ready (rs := [25]) (by kernel_rfl) (by simp) (AllReadyH.cons (o := ⟨some 107, _, _, _, _, _⟩) rfl (fun K hK => ?_) AllReadyH.nil)
  go_simp
  refine (plic_state D b _ hH.2.2.2.1).mono ?_
  rintro e wa ⟨rfl, ha⟩
  go_wp2_with fail
  refine hK.out _ _ ?_ (fun hH => ?_)
  · exact stepS hH ha
  clear hK K
  try simp only [Act.put, List.setIfInBounds_toArray, List.set_cons_zero, List.set_cons_succ]
  refine wpAnyH_ready (rs := [28]) (by kernel_rfl) (by simp) (AllReadyH.cons (o := ⟨some 110, _, _, _, _, _⟩) rfl (fun K hK => ?_) AllReadyH.nil)
  go_simp
  refine (same_devices D _ [] [] (isB_nil _ HRX.out.1 HRX.out.2.1) (isB_nil _ HRX.out.2.2.1 HRX.out.2.2.2)).mono ?_
  rintro e wa ⟨rfl, ha⟩
  go_wp2_with fail
  refine hK.out _ _ ?_ (fun hH => ?_)
  · exact stepS hH ha
  clear hK K
  try simp only [Act.put, List.setIfInBounds_toArray, List.set_cons_zero, List.set_cons_succ]
  refine wpAnyH_take (i := 29) (oi := ⟨some 111, _, _, _, _, _⟩) (v := ?_) rfl (by kernel_rfl) (by kernel_rfl) (by kernel_rfl) (fun _ _ _ h => h) (Or.inl ⟨by kernel_rfl, ?_⟩) hH ?_
  rotate_left 1
  · intro wq hq; obtain ⟨hq1, hq2, hq3, hq4, hq5⟩ := hq; first | (go_simp; done) | (go_simp; with_reducible rfl)
  simp only [Act.put, List.setIfInBounds_toArray, List.set_cons_zero, List.set_cons_succ]
  refine wpAnyH_ready (rs := [30]) (by kernel_rfl) (by simp) (AllReadyH.cons (o := ⟨none, _, _, _, _, _⟩) rfl (fun K hK => ?_) AllReadyH.nil)
  have g6 := hH.2.2.1
  go_simp
  refine hK.out _ _ ?_ (fun hH => ?_)
  · exact stepS_set hH (by omega) (by omega) (by omega)
  clear hK K
  try simp only [Act.put, List.setIfInBounds_toArray, List.set_cons_zero, List.set_cons_succ]
  refine wpAnyH_take (i := 31) (oi := ⟨some 7, _, _, _, _, _⟩) (v := ?_) rfl (by kernel_rfl) (by kernel_rfl) (by kernel_rfl) (fun _ _ _ h => h) (Or.inl ⟨by kernel_rfl, ?_⟩) hH ?_
  rotate_left 1
  · intro wq hq; obtain ⟨hq1, hq2, hq3, hq4, hq5⟩ := hq; first | (go_simp; done) | (go_simp; with_reducible rfl)
  simp only [Act.put, List.setIfInBounds_toArray, List.set_cons_zero, List.set_cons_succ]
  refine wpAnyH_done (by kernel_rfl) ?_ _
  go_wp2_with fail
  exact bodyPost_ret (res_ct _ _ _ _ _ rfl (lvs_ref _ _ _ g6 rfl) rfl) rfl ⟨rfl, hH.2.2.2.1, hH.2.2.2.2⟩
set_option maxRecDepth 100000 in
set_option maxHeartbeats 16000000 in
theorem plic_step2 (d : Dev) (hd : d.Ok) (b : Nat) (off v size : Int) (o0 : 0 ≤ off) (v0 : 0 ≤ v) (v1 : v < 18446744073709551616) (w : World) (hp : PlicAt w b d) (D : Dev) (hD : D = (d.write off size v.toNat).2) (hDD : D.Ok) (hrx : D.rxa = none ∧ D.rxl = 0 ∧ D.txa = none ∧ D.txl = 0) :
    Calls Try.prog 31 #[.pointer (some ⟨b, 0, none⟩), .agg d.cells, .agg #[.int .i64 2, .int .u64 off, .int .u64 v, .int .i64 size]] w (Stepped w b D) := by
  have HOK := Lib.hid hd
  have HDD := Lib.hid hDD
  have HP := Lib.hid hp
  have HRX := Lib.hid hrx
  have HDN := Lib.hid hD
  have hbl : b < w.heap.size := blk_lt hp
  clear hd hp hDD hrx hD
  go_enter Try.func31, Try.ntmps31
  obtain ⟨v, rfl⟩ := Int.eq_ofNat_of_zero_le v0
  have HV := Lib.hid (show v < 2 ^ 64 by omega)
  go_wp2_with fail
  refine (refp_write_any d HOK.out off size o0 v HV.out _).mono ?_
  rintro e w1 ⟨rfl, hb⟩
  have hw0 := below_then (base3 w _ _ _) hb (by simp; omega)
  have h4 : w1.heap[w.heap.size]? = some (.cells d.cells 61 (0, 0)) := (hb.block _ (by simp; omega)).trans (by rw [blk_alloc_old _ _ _ (by simp; try omega), blk_alloc_old _ _ _ (by simp), blk_alloc])
  have h5 : w1.heap[w.heap.size + 1]? = some (.cells #[.int .i64 2, .int .u64 off, .int .u64 (v : Nat), .int .i64 size] 65 (0, 0)) := (hb.block _ (by simp)).trans (by rw [blk_alloc_old _ _ _ (by simp)]; have := blk_alloc (w.alloc (.cells d.cells 61)) (.cells #[.int .i64 2, .int .u64 off, .int .u64 (v : Nat), .int .i64 size] 65); simpa using this)
  have r6 : rowIs w1 (w.heap.size + 1 + 1) 22 = true := by
    rw [(row_below hb (by simp)).2]
    simp [go_sem]
  have r4 : rowIs w1 w.heap.size 22 = true := rowIs_of h4
  have l4 : w.heap.size + 1 + 1 < w1.heap.size := rowIs_lt r6
  have HLT := Lib.hid l4
  have c51 : w1.cell? ⟨w.heap.size + 1, 1, none⟩ = some (.int .u64 off) := blk_cell h5 1
  have c52 : w1.cell? ⟨w.heap.size + 1, 2, none⟩ = some (.int .u64 (v : Nat)) := blk_cell h5 2
  have c53 : w1.cell? ⟨w.heap.size + 1, 3, none⟩ = some (.int .i64 size) := blk_cell h5 3
  have HPRE := Lib.hid (⟨r4, r6, blk_below hw0 hbl HP.out, below_grown hw0 _⟩ : PreS w b w.heap.size (w.heap.size + 1 + 1) d w1)
  have HDN2 : Hid ((d.write off size v).2 = D) := by have := HDN.out; rw [Int.toNat_natCast] at this; exact this.symm
  clear hb hw0 h4 h5
  rw [HDN2.out]
  go_wp2_with fail
  have HP1 : Hid (PlicAt (w1.alloc (.cells D.cells 61)).drew b d) := (preS HPRE.out ((Below.refl _ _).alloc (Nat.le_refl _) _)).2.2.1
  refine wp_region_held_drew (S := fun wq => rowIs wq w1.heap.size 22 = true ∧ rowOf wq w1.heap.size = D.cells ∧ rowIs wq w.heap.size 22 = true ∧ wq.cell? ⟨w.heap.size + 1, 1, none⟩ = some (.int .u64 off) ∧ wq.cell? ⟨w.heap.size + 1, 2, none⟩ = some (.int .u64 (v : Nat)) ∧ wq.cell? ⟨w.heap.size + 1, 3, none⟩ = some (.int .i64 size)) (by kernel_rfl) ?_ (fun hH => ?_)
  · refine ⟨?_, ?_, ?_, ?_, ?_, ?_⟩
    · simp [go_sem]
    · simp [go_sem]
    · rw [is_drew, is_alloc, if_neg (by omega)]; exact r4
    · exact (World.cell?_alloc_lt w1 _ _ (show w.heap.size + 1 < w1.heap.size by omega)).trans c51
    · exact (World.cell?_alloc_lt w1 _ _ (show w.heap.size + 1 < w1.heap.size by omega)).trans c52
    · exact (World.cell?_alloc_lt w1 _ _ (show w.heap.size + 1 < w1.heap.size by omega)).trans c53
  clear r4 r6 l4 c51 c52 c53
  refine wpAnyH_take (i := 0) (oi := ⟨some 71, _, _, _, _, _⟩) (v := ?_) rfl (by kernel_rfl) (by kernel_rfl) (by kernel_rfl) (fun _ _ _ h => h) (Or.inl ⟨by kernel_rfl, ?_⟩) hH ?_
  rotate_left 1
  · intro wq hq; obtain ⟨hq1, hq2, hq3, hq4, hq5, hq6⟩ := hq; first | (go_simp; done) | (go_simp; with_reducible rfl)
  simp only [Act.put, List.setIfInBounds_toArray, List.set_cons_zero, List.set_cons_succ]
  refine wpAnyH_take (i := 1) (oi := ⟨some 72, _, _, _, _, _⟩) (v := ?_) rfl (by kernel_rfl) (by kernel_rfl) (by kernel_rfl) (fun _ _ _ h => h) (Or.inl ⟨by kernel_rfl, ?_⟩) hH ?_
  rotate_left 1
  · intro wq hq; obtain ⟨hq1, hq2, hq3, hq4, hq5, hq6⟩ := hq; first | (go_simp; done) | (go_simp; with_reducible rfl)
  simp only [Act.put, List.setIfInBounds_toArray, List.set_cons_zero, List.set_cons_succ]
  refine wpAnyH_take (i := 2) (oi := ⟨some 73, _, _, _, _, _⟩) (v := ?_) rfl (by kernel_rfl) (by kernel_rfl) (by kernel_rfl) (fun _ _ _ h => h) (Or.inl ⟨by kernel_rfl, ?_⟩) hH ?_
  rotate_left 1
  · intro wq hq; obtain ⟨hq1, hq2, hq3, hq4, hq5, hq6⟩ := hq; first | (go_simp; done) | (go_simp; with_reducible rfl)
  simp only [Act.put, List.setIfInBounds_toArray, List.set_cons_zero, List.set_cons_succ]
  refine wpAnyH_take (i := 3) (oi := ⟨some 74, _, _, _, _, _⟩) (v := ?_) rfl (by kernel_rfl) (by kernel_rfl) (by kernel_rfl) (fun _ _ _ h => h) (Or.inl ⟨by kernel_rfl, ?_⟩) hH ?_
  rotate_left 1
  · intro wq hq; obtain ⟨hq1, hq2, hq3, hq4, hq5, hq6⟩ := hq; first | (go_simp; done) | (go_simp; with_reducible rfl)
  simp only [Act.put, List.setIfInBounds_toArray, List.set_cons_zero, List.set_cons_succ]
  refine wpAnyH_take (i := 4) (oi := ⟨some 75, _, _, _, _, _⟩) (v := ?_) rfl (by kernel_rfl) (by kernel_rfl) (by kernel_rfl) (fun _ _ _ h => h) (Or.inl ⟨by kernel_rfl, ?_⟩) hH ?_
  rotate_left 1
  · intro wq hq; obtain ⟨hq1, hq2, hq3, hq4, hq5, hq6⟩ := hq; first | (go_simp; done) | (go_simp; with_reducible rfl)
  simp only [Act.put, List.setIfInBounds_toArray, List.set_cons_zero, List.set_cons_succ]
  refine wpAnyH_take (i := 5) (oi := ⟨some 76, _, _, _, _, _⟩) (v := ?_) rfl (by kernel_rfl) (by kernel_rfl) (by kernel_rfl) (fun _ _ _ h => h) (Or.inl ⟨by kernel_rfl, ?_⟩) hH ?_
  rotate_left 1
  · intro wq hq; obtain ⟨hq1, hq2, hq3, hq4, hq5, hq6⟩ := hq; first | (go_simp; done) | (go_simp; with_reducible rfl)
  simp only [Act.put, List.setIfInBounds_toArray, List.set_cons_zero, List.set_cons_succ]
  refine wpAnyH_take (i := 6) (oi := ⟨some 77, _, _, _, _, _⟩) (v := ?_) rfl (by kernel_rfl) (by kernel_rfl) (by kernel_rfl) (fun _ _ _ h => h) (Or.inl ⟨by kernel_rfl, ?_⟩) hH ?_
  rotate_left 1
  · intro wq hq; obtain ⟨hq1, hq2, hq3, hq4, hq5, hq6⟩ := hq; first | (go_simp; done) | (go_simp; with_reducible rfl)
  simp only [Act.put, List.setIfInBounds_toArray, List.set_cons_zero, List.set_cons_succ]
  refine wpAnyH_take (i := 7) (oi := ⟨some 78, _, _, _, _, _⟩) (v := ?_) rfl (by kernel_rfl) (by kernel_rfl) (by kernel_rfl) (fun _ _ _ h => h) (Or.inl ⟨by kernel_rfl, ?_⟩) hH ?_
  rotate_left 1
  · intro wq hq; obtain ⟨hq1, hq2, hq3, hq4, hq5, hq6⟩ := hq; first | (go_simp; done) | (go_simp; with_reducible rfl)
  simp only [Act.put, List.setIfInBounds_toArray, List.set_cons_zero, List.set_cons_succ]
  refine wpAnyH_take (i := 9) (oi := ⟨some 80, _, _, _, _, _⟩) (v := ?_) rfl (by kernel_rfl) (by kernel_rfl) (by kernel_rfl) (fun _ _ _ h => h) (Or.inl ⟨by kernel_rfl, ?_⟩) hH ?_
  rotate_left 1
  · intro wq hq; obtain ⟨hq1, hq2, hq3, hq4, hq5, hq6⟩ := hq; first | (go_simp; done) | (go_simp; with_reducible rfl)
  simp only [Act.put, List.setIfInBounds_toArray, List.set_cons_zero, List.set_cons_succ]
  refine wpAnyH_ready (rs := [8]) (by kernel_rfl) (by simp) (AllReadyH.cons (o := ⟨some 79, _, _, _, _, _⟩) rfl (fun K hK => ?_) AllReadyH.nil)
  go_simp
  refine (plic_write_any d HOK.out off size v HV.out b _ HP1.out).mono ?_
  rintro e w2 ⟨rfl, hset⟩
  go_wp2_with fail
  refine hK.out _ _ ?_ (fun hH => ?_)
  · have hlt := HLT.out
    have h1 := rowIs_lt hH.1
    have h4 := rowIs_lt hH.2.2.1
    obtain ⟨x1, x2, _⟩ := row_grown hset.2 h1 (by omega)
    obtain ⟨_, y2, _⟩ := row_grown hset.2 h4 (by omega)
    obtain ⟨_, _, z3⟩ := row_grown (g := w.heap.size + 1) hset.2 (by have := HLT.out; simp; omega) (by omega)
    exact ⟨by rw [x2]; exact hH.1, by rw [x1]; exact hH.2.1, by rw [y2]; exact hH.2.2.1, by rw [z3]; exact hH.2.2.2.1, by rw [z3]; exact hH.2.2.2.2.1, by rw [z3]; exact hH.2.2.2.2.2⟩
  have HSET := Lib.hid hset
  clear hset
  clear hK K
  try simp only [Act.put, List.setIfInBounds_toArray, List.set_cons_zero, List.set_cons_succ]
  refine wpAnyH_take (i := 10) (oi := ⟨some 81, _, _, _, _, _⟩) (v := ?_) rfl (by kernel_rfl) (by kernel_rfl) (by kernel_rfl) (fun _ _ _ h => h) (Or.inl ⟨by kernel_rfl, ?_⟩) hH ?_
  rotate_left 1
  · intro wq hq; obtain ⟨hq1, hq2, hq3, hq4, hq5, hq6⟩ := hq; first | (go_simp; done) | (go_simp; with_reducible rfl)
  simp only [Act.put, List.setIfInBounds_toArray, List.set_cons_zero, List.set_cons_succ]
  refine wpAnyH_ready (rs := [11]) (by kernel_rfl) (by simp) (AllReadyH.cons (o := ⟨none, _, _, _, _, _⟩) rfl (fun K hK => ?_) AllReadyH.nil)
  have g4 := hH.2.2.1
  go_simp
  refine hK.out _ _ ?_ (fun hH => ?_)
  · have hlt := HLT.out
    refine ⟨?_, ?_, ?_, ?_, ?_, ?_⟩
    · rw [is_setRow_other _ _ _ _ _ (by omega)]; exact hH.1
    · rw [row_setRow_other _ _ _ _ (by omega)]; exact hH.2.1
    · rw [is_setRow_same _ _ 22 _ _ g4]; rfl
    · rw [cell_setRow_other _ _ _ _ _ (by omega)]; exact hH.2.2.2.1
    · rw [cell_setRow_other _ _ _ _ _ (by omega)]; exact hH.2.2.2.2.1
    · rw [cell_setRow_other _ _ _ _ _ (by omega)]; exact hH.2.2.2.2.2
  clear hK K
  try simp only [Act.put, List.setIfInBounds_toArray, List.set_cons_zero, List.set_cons_succ]
  refine wpAnyH_take (i := 12) (oi := ⟨some 8, _, _, _, _, _⟩) (v := ?_) rfl (by kernel_rfl) (by kernel_rfl) (by kernel_rfl) (fun _ _ _ h => h) (Or.inl ⟨by kernel_rfl, ?_⟩) hH ?_
  rotate_left 1
  · intro wq hq; obtain ⟨hq1, hq2, hq3, hq4, hq5, hq6⟩ := hq; first | (go_simp; done) | (go_simp; with_reducible rfl)
  simp only [Act.put, List.setIfInBounds_toArray, List.set_cons_zero, List.set_cons_succ]
  refine wpAnyH_done (by kernel_rfl) ?_ _
  have HSH : Hid (StepS w b w.heap.size (w.heap.size + 1 + 1) D ((w2.setRow w.heap.size D.cells).drew)) := by
    have hX := preS HPRE.out ((Below.refl _ _).alloc (Nat.le_refl _) (.cells D.cells 61))
    have hs := HSET.out
    rw [HDN2.out] at hs
    have hl6 := rowIs_lt hX.2.1
    refine shownS ⟨?_, ?_, hs.1, ?_⟩ (by omega) (by omega) (Nat.le_refl _)
    · rw [(row_grown hs.2 (by simp; have := HLT.out; omega) (by omega)).2.1]; exact hX.1
    · rw [(row_grown hs.2 (by simp; have := HLT.out; omega) (by omega)).2.1]; exact hX.2.1
    · exact grown_trans hX.2.2.2 (grown_trans (grown_drew (grown_refl _ _)) hs.2)
  clear HSET
  go_wp2_with fail
  refine wp_region_held_drew (S := fun wq => rowIs wq w.heap.size 22 = true ∧ rowOf wq w.heap.size = D.cells ∧ rowIs wq (w.heap.size + 1 + 1) 22 = true ∧ PlicAt wq b D ∧ w.grownBy wq (some b)) (by kernel_rfl) ?_ (fun hH => ?_)
  · exact HSH.out
  refine wpAnyH_take (i := 0) (oi := ⟨some 82, _, _, _, _, _⟩) (v := ?_) rfl (by kernel_rfl) (by kernel_rfl) (by kernel_rfl) (fun _ _ _ h => h) (Or.inl ⟨by kernel_rfl, ?_⟩) hH ?_
  rotate_left 1
  · intro wq hq; obtain ⟨hq1, hq2, hq3, hq4, hq5⟩ := hq; first | (go_simp; done) | (go_simp; with_reducible rfl)
  simp only [Act.put, List.setIfInBounds_toArray, List.set_cons_zero, List.set_cons_succ]
  refine wpAnyH_take (i := 1) (oi := ⟨some 83, _, _, _, _, _⟩) (v := ?_) rfl (by kernel_rfl) (by kernel_rfl) (by kernel_rfl) (fun _ _ _ h => h) (Or.inl ⟨by kernel_rfl, ?_⟩) hH ?_
  rotate_left 1
  · intro wq hq; obtain ⟨hq1, hq2, hq3, hq4, hq5⟩ := hq; first | (go_simp; done) | (go_simp; with_reducible rfl)
  simp only [Act.put, List.setIfInBounds_toArray, List.set_cons_zero, List.set_cons_succ]
  refine wpAnyH_take (i := 2) (oi := ⟨some 84, _, _, _, _, _⟩) (v := ?_) rfl (by kernel_rfl) (by kernel_rfl) (by kernel_rfl) (fun _ _ _ h => h) (Or.inl ⟨by kernel_rfl, ?_⟩) hH ?_
  rotate_left 1
  · intro wq hq; obtain ⟨hq1, hq2, hq3, hq4, hq5⟩ := hq; first | (go_simp; done) | (go_simp; with_reducible rfl)
  simp only [Act.put, List.setIfInBounds_toArray, List.set_cons_zero, List.set_cons_succ]
  refine wpAnyH_take (i := 3) (oi := ⟨some 85, _, _, _, _, _⟩) (v := ?_) rfl (by kernel_rfl) (by kernel_rfl) (by kernel_rfl) (fun _ _ _ h => h) (Or.inl ⟨by kernel_rfl, ?_⟩) hH ?_
  rotate_left 1
  · intro wq hq; obtain ⟨hq1, hq2, hq3, hq4, hq5⟩ := hq; first | (go_simp; done) | (go_simp; with_reducible rfl)
  simp only [Act.put, List.setIfInBounds_toArray, List.set_cons_zero, List.set_cons_succ]
  refine wpAnyH_take (i := 5) (oi := ⟨some 87, _, _, _, _, _⟩) (v := ?_) rfl (by kernel_rfl) (by kernel_rfl) (by kernel_rfl) (fun _ _ _ h => h) (Or.inl ⟨by kernel_rfl, ?_⟩) hH ?_
  rotate_left 1
  · intro wq hq; obtain ⟨hq1, hq2, hq3, hq4, hq5⟩ := hq; first | (go_simp; done) | (go_simp; with_reducible rfl)
  simp only [Act.put, List.setIfInBounds_toArray, List.set_cons_zero, List.set_cons_succ]
  refine wpAnyH_ready (rs := [4]) (by kernel_rfl) (by simp) (AllReadyH.cons (o := ⟨some 86, _, _, _, _, _⟩) rfl (fun K hK => ?_) AllReadyH.nil)
  go_simp
  refine (plic_lines D HDD.out b _ hH.2.2.2.1).mono ?_
  rintro e wa ⟨rfl, na, rfl⟩
  go_wp2_with fail
  refine hK.out _ _ ?_ (fun hH => ?_)
  · exact stepS hH ⟨rfl, rfl, rfl, Nat.le_refl _, fun _ _ => rfl⟩
  clear hK K
  try simp only [Act.put, List.setIfInBounds_toArray, List.set_cons_zero, List.set_cons_succ]
  refine wpAnyH_ready (rs := [6]) (by kernel_rfl) (by simp) (AllReadyH.cons (o := ⟨some 88, _, _, _, _, _⟩) rfl (fun K hK => ?_) AllReadyH.nil)
  go_simp
  refine (refp_lines D HDD.out _).mono ?_
  rintro e wa ⟨rfl, ha⟩
  go_wp2_with fail
  refine hK.out _ _ ?_ (fun hH => ?_)
  · exact stepS hH ha
  clear hK K
  try simp only [Act.put, List.setIfInBounds_toArray, List.set_cons_zero, List.set_cons_succ]
  refine wpAnyH_take (i := 7) (oi := ⟨some 89, _, _, _, _, _⟩) (v := ?_) rfl (by kernel_rfl) (by kernel_rfl) (by kernel_rfl) (fun _ _ _ h => h) (Or.inl ⟨by kernel_rfl, ?_⟩) hH ?_
  rotate_left 1
  · intro wq hq; obtain ⟨hq1, hq2, hq3, hq4, hq5⟩ := hq; first | (go_simp; done) | (go_simp; with_reducible rfl)
  simp only [Act.put, List.setIfInBounds_toArray, List.set_cons_zero, List.set_cons_succ]
  refine wpAnyH_take (i := 8) (oi := ⟨some 90, _, _, _, _, _⟩) (v := ?_) rfl (by kernel_rfl) (by kernel_rfl) (by kernel_rfl) (fun _ _ _ h => h) (Or.inl ⟨by kernel_rfl, ?_⟩) hH ?_
  rotate_left 1
  · intro wq hq; obtain ⟨hq1, hq2, hq3, hq4, hq5⟩ := hq; first | (go_simp; done) | (go_simp; with_reducible rfl)
  simp only [Act.put, List.setIfInBounds_toArray, List.set_cons_zero, List.set_cons_succ]
  refine wpAnyH_take (i := 9) (oi := ⟨some 91, _, _, _, _, _⟩) (v := ?_) rfl (by kernel_rfl) (by kernel_rfl) (by kernel_rfl) (fun _ _ _ h => h) (Or.inl ⟨by kernel_rfl, ?_⟩) hH ?_
  rotate_left 1
  · intro wq hq; obtain ⟨hq1, hq2, hq3, hq4, hq5⟩ := hq; first | (go_simp; done) | (go_simp; with_reducible rfl)
  simp only [Act.put, List.setIfInBounds_toArray, List.set_cons_zero, List.set_cons_succ]
  refine wpAnyH_take (i := 10) (oi := ⟨some 92, _, _, _, _, _⟩) (v := ?_) rfl (by kernel_rfl) (by kernel_rfl) (by kernel_rfl) (fun _ _ _ h => h) (Or.inl ⟨by kernel_rfl, ?_⟩) hH ?_
  rotate_left 1
  · intro wq hq; obtain ⟨hq1, hq2, hq3, hq4, hq5⟩ := hq; first | (go_simp; done) | (go_simp; with_reducible rfl)
  simp only [Act.put, List.setIfInBounds_toArray, List.set_cons_zero, List.set_cons_succ]
  refine wpAnyH_take (i := 12) (oi := ⟨some 94, _, _, _, _, _⟩) (v := ?_) rfl (by kernel_rfl) (by kernel_rfl) (by kernel_rfl) (fun _ _ _ h => h) (Or.inl ⟨by kernel_rfl, ?_⟩) hH ?_
  rotate_left 1
  · intro wq hq; obtain ⟨hq1, hq2, hq3, hq4, hq5⟩ := hq; first | (go_simp; done) | (go_simp; with_reducible rfl)
  simp only [Act.put, List.setIfInBounds_toArray, List.set_cons_zero, List.set_cons_succ]
  refine wpAnyH_ready (rs := [11]) (by kernel_rfl) (by simp) (AllReadyH.cons (o := ⟨some 93, _, _, _, _, _⟩) rfl (fun K hK => ?_) AllReadyH.nil)
  go_simp
  refine (plic_best D HDD.out b 0 (by omega) _ hH.2.2.2.1).mono ?_
  rintro e wa ⟨rfl, na, rfl⟩
  go_wp2_with fail
  refine hK.out _ _ ?_ (fun hH => ?_)
  · exact stepS hH ⟨rfl, rfl, rfl, Nat.le_refl _, fun _ _ => rfl⟩
  clear hK K
  try simp only [Act.put, List.setIfInBounds_toArray, List.set_cons_zero, List.set_cons_succ]
  refine wpAnyH_ready (rs := [13]) (by kernel_rfl) (by simp) (AllReadyH.cons (o := ⟨some 95, _, _, _, _, _⟩) rfl (fun K hK => ?_) AllReadyH.nil)
  go_simp
  refine (ref_best D HDD.out 0 (by omega) _).mono ?_
  rintro e wa ⟨rfl, ha⟩
  go_wp2_with fail
  refine hK.out _ _ ?_ (fun hH => ?_)
  · exact stepS hH ha
  clear hK K
  try simp only [Act.put, List.setIfInBounds_toArray, List.set_cons_zero, List.set_cons_succ]
  refine wpAnyH_take (i := 14) (oi := ⟨some 96, _, _, _, _, _⟩) (v := ?_) rfl (by kernel_rfl) (by kernel_rfl) (by kernel_rfl) (fun _ _ _ h => h) (Or.inl ⟨by kernel_rfl, ?_⟩) hH ?_
  rotate_left 1
  · intro wq hq; obtain ⟨hq1, hq2, hq3, hq4, hq5⟩ := hq; first | (go_simp; done) | (go_simp; with_reducible rfl)
  simp only [Act.put, List.setIfInBounds_toArray, List.set_cons_zero, List.set_cons_succ]
  refine wpAnyH_take (i := 15) (oi := ⟨some 97, _, _, _, _, _⟩) (v := ?_) rfl (by kernel_rfl) (by kernel_rfl) (by kernel_rfl) (fun _ _ _ h => h) (Or.inl ⟨by kernel_rfl, ?_⟩) hH ?_
  rotate_left 1
  · intro wq hq; obtain ⟨hq1, hq2, hq3, hq4, hq5⟩ := hq; first | (go_simp; done) | (go_simp; with_reducible rfl)
  simp only [Act.put, List.setIfInBounds_toArray, List.set_cons_zero, List.set_cons_succ]
  refine wpAnyH_take (i := 16) (oi := ⟨some 98, _, _, _, _, _⟩) (v := ?_) rfl (by kernel_rfl) (by kernel_rfl) (by kernel_rfl) (fun _ _ _ h => h) (Or.inl ⟨by kernel_rfl, ?_⟩) hH ?_
  rotate_left 1
  · intro wq hq; obtain ⟨hq1, hq2, hq3, hq4, hq5⟩ := hq; first | (go_simp; done) | (go_simp; with_reducible rfl)
  simp only [Act.put, List.setIfInBounds_toArray, List.set_cons_zero, List.set_cons_succ]
  refine wpAnyH_take (i := 17) (oi := ⟨some 99, _, _, _, _, _⟩) (v := ?_) rfl (by kernel_rfl) (by kernel_rfl) (by kernel_rfl) (fun _ _ _ h => h) (Or.inl ⟨by kernel_rfl, ?_⟩) hH ?_
  rotate_left 1
  · intro wq hq; obtain ⟨hq1, hq2, hq3, hq4, hq5⟩ := hq; first | (go_simp; done) | (go_simp; with_reducible rfl)
  simp only [Act.put, List.setIfInBounds_toArray, List.set_cons_zero, List.set_cons_succ]
  refine wpAnyH_take (i := 19) (oi := ⟨some 101, _, _, _, _, _⟩) (v := ?_) rfl (by kernel_rfl) (by kernel_rfl) (by kernel_rfl) (fun _ _ _ h => h) (Or.inl ⟨by kernel_rfl, ?_⟩) hH ?_
  rotate_left 1
  · intro wq hq; obtain ⟨hq1, hq2, hq3, hq4, hq5⟩ := hq; first | (go_simp; done) | (go_simp; with_reducible rfl)
  simp only [Act.put, List.setIfInBounds_toArray, List.set_cons_zero, List.set_cons_succ]
  refine wpAnyH_ready (rs := [18]) (by kernel_rfl) (by simp) (AllReadyH.cons (o := ⟨some 100, _, _, _, _, _⟩) rfl (fun K hK => ?_) AllReadyH.nil)
  go_simp
  refine (plic_best D HDD.out b 1 (by omega) _ hH.2.2.2.1).mono ?_
  rintro e wa ⟨rfl, na, rfl⟩
  go_wp2_with fail
  refine hK.out _ _ ?_ (fun hH => ?_)
  · exact stepS hH ⟨rfl, rfl, rfl, Nat.le_refl _, fun _ _ => rfl⟩
  clear hK K
  try simp only [Act.put, List.setIfInBounds_toArray, List.set_cons_zero, List.set_cons_succ]
  refine wpAnyH_ready (rs := [20]) (by kernel_rfl) (by simp) (AllReadyH.cons (o := ⟨some 102, _, _, _, _, _⟩) rfl (fun K hK => ?_) AllReadyH.nil)
  go_simp
  refine (ref_best D HDD.out 1 (by omega) _).mono ?_
  rintro e wa ⟨rfl, ha⟩
  go_wp2_with fail
  refine hK.out _ _ ?_ (fun hH => ?_)
  · exact stepS hH ha
  clear hK K
  try simp only [Act.put, List.setIfInBounds_toArray, List.set_cons_zero, List.set_cons_succ]
  refine wpAnyH_take (i := 21) (oi := ⟨some 103, _, _, _, _, _⟩) (v := ?_) rfl (by kernel_rfl) (by kernel_rfl) (by kernel_rfl) (fun _ _ _ h => h) (Or.inl ⟨by kernel_rfl, ?_⟩) hH ?_
  rotate_left 1
  · intro wq hq; obtain ⟨hq1, hq2, hq3, hq4, hq5⟩ := hq; first | (go_simp; done) | (go_simp; with_reducible rfl)
  simp only [Act.put, List.setIfInBounds_toArray, List.set_cons_zero, List.set_cons_succ]
  refine wpAnyH_take (i := 22) (oi := ⟨some 104, _, _, _, _, _⟩) (v := ?_) rfl (by kernel_rfl) (by kernel_rfl) (by kernel_rfl) (fun _ _ _ h => h) (Or.inl ⟨by kernel_rfl, ?_⟩) hH ?_
  rotate_left 1
  · intro wq hq; obtain ⟨hq1, hq2, hq3, hq4, hq5⟩ := hq; first | (go_simp; done) | (go_simp; with_reducible rfl)
  simp only [Act.put, List.setIfInBounds_toArray, List.set_cons_zero, List.set_cons_succ]
  refine wpAnyH_take (i := 23) (oi := ⟨some 105, _, _, _, _, _⟩) (v := ?_) rfl (by kernel_rfl) (by kernel_rfl) (by kernel_rfl) (fun _ _ _ h => h) (Or.inl ⟨by kernel_rfl, ?_⟩) hH ?_
  rotate_left 1
  · intro wq hq; obtain ⟨hq1, hq2, hq3, hq4, hq5⟩ := hq; first | (go_simp; done) | (go_simp; with_reducible rfl)
  simp only [Act.put, List.setIfInBounds_toArray, List.set_cons_zero, List.set_cons_succ]
  refine wpAnyH_take (i := 24) (oi := ⟨some 106, _, _, _, _, _⟩) (v := ?_) rfl (by kernel_rfl) (by kernel_rfl) (by kernel_rfl) (fun _ _ _ h => h) (Or.inl ⟨by kernel_rfl, ?_⟩) hH ?_
  rotate_left 1
  · intro wq hq; obtain ⟨hq1, hq2, hq3, hq4, hq5⟩ := hq; first | (go_simp; done) | (go_simp; with_reducible rfl)
  simp only [Act.put, List.setIfInBounds_toArray, List.set_cons_zero, List.set_cons_succ]
  refine wpAnyH_take (i := 26) (oi := ⟨some 108, _, _, _, _, _⟩) (v := ?_) rfl (by kernel_rfl) (by kernel_rfl) (by kernel_rfl) (fun _ _ _ h => h) (Or.inl ⟨by kernel_rfl, ?_⟩) hH ?_
  rotate_left 1
  · intro wq hq; obtain ⟨hq1, hq2, hq3, hq4, hq5⟩ := hq; first | (go_simp; done) | (go_simp; with_reducible rfl)
  simp only [Act.put, List.setIfInBounds_toArray, List.set_cons_zero, List.set_cons_succ]
  refine wpAnyH_take (i := 27) (oi := ⟨some 109, _, _, _, _, _⟩) (v := ?_) rfl (by kernel_rfl) (by kernel_rfl) (by kernel_rfl) (fun _ _ _ h => h) (Or.inl ⟨by kernel_rfl, ?_⟩) hH ?_
  rotate_left 1
  · intro wq hq; obtain ⟨hq1, hq2, hq3, hq4, hq5⟩ := hq; first | (go_simp; done) | (go_simp; with_reducible rfl)
  simp only [Act.put, List.setIfInBounds_toArray, List.set_cons_zero, List.set_cons_succ]
  refine wpAnyH_ready (rs := [25]) (by kernel_rfl) (by simp) (AllReadyH.cons (o := ⟨some 107, _, _, _, _, _⟩) rfl (fun K hK => ?_) AllReadyH.nil)
  go_simp
  refine (plic_state D b _ hH.2.2.2.1).mono ?_
  rintro e wa ⟨rfl, ha⟩
  go_wp2_with fail
  refine hK.out _ _ ?_ (fun hH => ?_)
  · exact stepS hH ha
  clear hK K
  try simp only [Act.put, List.setIfInBounds_toArray, List.set_cons_zero, List.set_cons_succ]
  refine wpAnyH_ready (rs := [28]) (by kernel_rfl) (by simp) (AllReadyH.cons (o := ⟨some 110, _, _, _, _, _⟩) rfl (fun K hK => ?_) AllReadyH.nil)
  go_simp
  refine (same_devices D _ [] [] (isB_nil _ HRX.out.1 HRX.out.2.1) (isB_nil _ HRX.out.2.2.1 HRX.out.2.2.2)).mono ?_
  rintro e wa ⟨rfl, ha⟩
  go_wp2_with fail
  refine hK.out _ _ ?_ (fun hH => ?_)
  · exact stepS hH ha
  clear hK K
  try simp only [Act.put, List.setIfInBounds_toArray, List.set_cons_zero, List.set_cons_succ]
  refine wpAnyH_take (i := 29) (oi := ⟨some 111, _, _, _, _, _⟩) (v := ?_) rfl (by kernel_rfl) (by kernel_rfl) (by kernel_rfl) (fun _ _ _ h => h) (Or.inl ⟨by kernel_rfl, ?_⟩) hH ?_
  rotate_left 1
  · intro wq hq; obtain ⟨hq1, hq2, hq3, hq4, hq5⟩ := hq; first | (go_simp; done) | (go_simp; with_reducible rfl)
  simp only [Act.put, List.setIfInBounds_toArray, List.set_cons_zero, List.set_cons_succ]
  refine wpAnyH_ready (rs := [30]) (by kernel_rfl) (by simp) (AllReadyH.cons (o := ⟨none, _, _, _, _, _⟩) rfl (fun K hK => ?_) AllReadyH.nil)
  have g6 := hH.2.2.1
  go_simp
  refine hK.out _ _ ?_ (fun hH => ?_)
  · exact stepS_set hH (by omega) (by omega) (by omega)
  clear hK K
  try simp only [Act.put, List.setIfInBounds_toArray, List.set_cons_zero, List.set_cons_succ]
  refine wpAnyH_take (i := 31) (oi := ⟨some 7, _, _, _, _, _⟩) (v := ?_) rfl (by kernel_rfl) (by kernel_rfl) (by kernel_rfl) (fun _ _ _ h => h) (Or.inl ⟨by kernel_rfl, ?_⟩) hH ?_
  rotate_left 1
  · intro wq hq; obtain ⟨hq1, hq2, hq3, hq4, hq5⟩ := hq; first | (go_simp; done) | (go_simp; with_reducible rfl)
  simp only [Act.put, List.setIfInBounds_toArray, List.set_cons_zero, List.set_cons_succ]
  refine wpAnyH_done (by kernel_rfl) ?_ _
  go_wp2_with fail
  exact bodyPost_ret (res_ct _ _ _ _ _ rfl (lvs_ref _ _ _ g6 rfl) rfl) rfl ⟨rfl, hH.2.2.2.1, hH.2.2.2.2⟩
end Go.Proofs.Ytebdbbpefmgooaa
