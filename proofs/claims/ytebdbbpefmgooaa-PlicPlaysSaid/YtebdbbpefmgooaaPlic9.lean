/- The reference PLIC: a register read, walked. No condition. -/
import Derived.Test.YtebdbbpefmgooaaPlic8
import Derived.StillTailTactics
import Derived.BigRegion
import Derived.Deep.RegionWith
import Derived.Deep.QuietTactic
import Derived.BigQuiet
import Derived.Deep.LoopGhost
import Derived.Deep.DeepCutAuto
import Derived.Deep.DeepFit
import Derived.Deep.DeepMust
set_option linter.unusedVariables false
set_option linter.unusedSimpArgs false
namespace Go.Proofs.Ytebdbbpefmgooaa
open Go.RowKit
attribute [local go_sem ↓] ld_dev ld_ref ld_plc st_dev st_ref st_plc
attribute [local go_sem] rl_dev rl_ref rl_plc rs_dev rs_ref rs_plc Dev.size_cells Dev.st_ok Dev.c0 Dev.c1 Dev.c2 Dev.c3 Dev.c4 Dev.c5 Dev.c6 Dev.c7 Dev.c8 Dev.c9 Dev.c10 Dev.c11 Dev.c12 Dev.c13 Dev.c14 Dev.c15 Dev.c16 Dev.c17 Dev.c18 Dev.c19 Dev.c20 Dev.c21 Dev.set_pend Dev.set_cla row_alloc row_drew row_drewN is_alloc is_drew is_drewN row_setCell is_setCell setRow_alloc_new objRow_cells objIs_cells row_setRow_same row_setRow_other is_setRow_same is_setRow_other
/-- a number, the PLIC d as a value, an error; nothing that was there has turned -/
def RefRead (w : World) (v : Nat) (d : Dev) (k : Int) (e : Ending) (w' : World) : Prop := e = .returned (.tuple #[.int .u64 v, .agg d.cells, .int .i64 k]) ∧ Below w.heap.size w w'
theorem base2 (w : World) (a b : Obj) : Below w.heap.size w ((w.alloc a).alloc b) := ((Below.refl _ _).alloc (Nat.le_refl _) _).alloc (by simp) _
set_option maxRecDepth 100000 in
set_option maxHeartbeats 2000000 in
theorem refp_read1 (d : Dev) (hd : d.Ok) (off : Int) (h0 : 0 ≤ off) (k : Nat) (hk : k < 8) (hpl : placeOf off = (1, (k : Int))) (w : World) :
    Calls Try.prog 54 #[.agg d.cells, .int .u64 off, .int .i64 4] w (RefRead w (d.pr k) d 0) := by
  have hw : Hid (∀ w, Calls Try.prog 73 #[.int .u64 off] w (PlaceIs w (1, (k : Int)))) := fun w => hpl ▸ place_any off h0 w
  have c2 : d.cells[3 + k]? = some (.int .u32 (d.pr k)) := d.cell_pr _ hk
  have hki : (k : Int) < 8 := by omega
  have hwr := wrap_u64_32 (d.pr k) (hd.pr k hk)
  clear hpl hd
  go_enter Try.func54, Try.ntmps54
  go_wp2_with fail
  refine (hw.out _).mono ?_
  rintro e w1 ⟨rfl, rfl⟩
  go_wp2
  go_region
  go_wp2
  exact bodyPost_ret (res_tct _ _ _ (w.heap.size + 1) d.cells rfl (lvs_ref _ _ _ (by simp [go_sem]) rfl) rfl) rfl ⟨rfl, below_setRow (base2 w _ _).drew (by omega) _⟩
set_option maxRecDepth 100000 in
set_option maxHeartbeats 2000000 in
theorem refp_read2 (d : Dev) (hd : d.Ok) (off : Int) (h0 : 0 ≤ off)  (hpl : placeOf off = (2, 0)) (w : World) :
    Calls Try.prog 54 #[.agg d.cells, .int .u64 off, .int .i64 4] w (RefRead w (d.pend) d 0) := by
  have hw : Hid (∀ w, Calls Try.prog 73 #[.int .u64 off] w (PlaceIs w (2, 0))) := fun w => hpl ▸ place_any off h0 w
  
  have hwr := wrap_u64_32 (d.pend) hd.pend
  clear hpl hd
  go_enter Try.func54, Try.ntmps54
  go_wp2_with fail
  refine (hw.out _).mono ?_
  rintro e w1 ⟨rfl, rfl⟩
  go_wp2
  go_region
  go_wp2
  exact bodyPost_ret (res_tct _ _ _ (w.heap.size + 1) d.cells rfl (lvs_ref _ _ _ (by simp [go_sem]) rfl) rfl) rfl ⟨rfl, below_setRow (base2 w _ _).drew (by omega) _⟩
set_option maxRecDepth 100000 in
set_option maxHeartbeats 2000000 in
theorem refp_read3 (d : Dev) (hd : d.Ok) (off : Int) (h0 : 0 ≤ off) (k : Nat) (hk : k < 2) (hpl : placeOf off = (3, (k : Int))) (w : World) :
    Calls Try.prog 54 #[.agg d.cells, .int .u64 off, .int .i64 4] w (RefRead w (d.en k) d 0) := by
  have hw : Hid (∀ w, Calls Try.prog 73 #[.int .u64 off] w (PlaceIs w (3, (k : Int)))) := fun w => hpl ▸ place_any off h0 w
  have c2 : d.cells[13 + k]? = some (.int .u32 (d.en k)) := d.cell_en _ hk
  have hki : (k : Int) < 2 := by omega
  have hwr := wrap_u64_32 (d.en k) (hd.en k hk)
  clear hpl hd
  go_enter Try.func54, Try.ntmps54
  go_wp2_with fail
  refine (hw.out _).mono ?_
  rintro e w1 ⟨rfl, rfl⟩
  go_wp2
  go_region
  go_wp2
  exact bodyPost_ret (res_tct _ _ _ (w.heap.size + 1) d.cells rfl (lvs_ref _ _ _ (by simp [go_sem]) rfl) rfl) rfl ⟨rfl, below_setRow (base2 w _ _).drew (by omega) _⟩
set_option maxRecDepth 100000 in
set_option maxHeartbeats 2000000 in
theorem refp_read4 (d : Dev) (hd : d.Ok) (off : Int) (h0 : 0 ≤ off) (k : Nat) (hk : k < 2) (hpl : placeOf off = (4, (k : Int))) (w : World) :
    Calls Try.prog 54 #[.agg d.cells, .int .u64 off, .int .i64 4] w (RefRead w (d.th k) d 0) := by
  have hw : Hid (∀ w, Calls Try.prog 73 #[.int .u64 off] w (PlaceIs w (4, (k : Int)))) := fun w => hpl ▸ place_any off h0 w
  have c2 : d.cells[15 + k]? = some (.int .u32 (d.th k)) := d.cell_th _ hk
  have hki : (k : Int) < 2 := by omega
  have hwr := wrap_u64_32 (d.th k) (hd.th k hk)
  clear hpl hd
  go_enter Try.func54, Try.ntmps54
  go_wp2_with fail
  refine (hw.out _).mono ?_
  rintro e w1 ⟨rfl, rfl⟩
  go_wp2
  go_region
  go_wp2
  exact bodyPost_ret (res_tct _ _ _ (w.heap.size + 1) d.cells rfl (lvs_ref _ _ _ (by simp [go_sem]) rfl) rfl) rfl ⟨rfl, below_setRow (base2 w _ _).drew (by omega) _⟩
theorem ref_best (d : Dev) (hd : d.Ok) (c : Nat) (hc : c < 2) (w : World) :
    Calls Try.prog 32 #[.agg d.cells, .int .i64 c] w fun e w' => e = .returned (.int .i64 (d.best c)) ∧ Below w.heap.size w w' := by
  have : c = 0 ∨ c = 1 := by omega
  rcases this with rfl | rfl
  · exact ref_best0 d hd w
  · exact ref_best1 d hd w
set_option maxRecDepth 100000 in
set_option maxHeartbeats 2000000 in
theorem refp_read0 (d : Dev) (off size : Int) (h0 : 0 ≤ off) (hpl : placeOf off = (0, 0)) (w : World) :
    Calls Try.prog 54 #[.agg d.cells, .int .u64 off, .int .i64 size] w (RefRead w 0 d 6) := by
  have hw : Hid (∀ w, Calls Try.prog 73 #[.int .u64 off] w (PlaceIs w (0, 0))) := fun w => hpl ▸ place_any off h0 w
  clear hpl
  go_enter Try.func54, Try.ntmps54
  go_wp2_with fail
  refine (hw.out _).mono ?_
  rintro e w1 ⟨rfl, rfl⟩
  go_wp2
  go_region
  go_wp2
  exact bodyPost_ret (res_tct _ _ _ (w.heap.size + 1) d.cells rfl (lvs_ref _ _ _ (by simp [go_sem]) rfl) rfl) rfl ⟨rfl, below_setRow (base2 w _ _).drew (by omega) _⟩
set_option maxRecDepth 100000 in
set_option maxHeartbeats 2000000 in
theorem refp_read_size (d : Dev) (off size : Int) (h0 : 0 ≤ off) (hk : ((placeOf off).1 == 0) = false) (hs : (size != 4) = true) (w : World) :
    Calls Try.prog 54 #[.agg d.cells, .int .u64 off, .int .i64 size] w (RefRead w 0 d 6) := by
  have hw : Hid (∀ w, Calls Try.prog 73 #[.int .u64 off] w (PlaceIs w (placeOf off))) := fun w => place_any off h0 w
  generalize placeOf off = p at *
  go_enter Try.func54, Try.ntmps54
  go_wp2_with fail
  refine (hw.out _).mono ?_
  rintro e w1 ⟨rfl, rfl⟩
  go_wp2
  go_region
  go_wp2
  exact bodyPost_ret (res_tct _ _ _ (w.heap.size + 1) d.cells rfl (lvs_ref _ _ _ (by simp [go_sem]) rfl) rfl) rfl ⟨rfl, below_setRow (base2 w _ _).drew (by omega) _⟩
set_option maxRecDepth 100000 in
set_option maxHeartbeats 2000000 in
theorem refp_read5 (d : Dev) (hd : d.Ok) (off : Int) (h0 : 0 ≤ off) (k : Nat) (hk : k < 2) (hpl : placeOf off = (5, (k : Int))) (hpos : 0 < d.best k) (w : World) :
    Calls Try.prog 54 #[.agg d.cells, .int .u64 off, .int .i64 4] w (RefRead w (d.best k) (d.claim (d.best k)) 0) := by
  have hw : Hid (∀ w, Calls Try.prog 73 #[.int .u64 off] w (PlaceIs w (5, k))) := fun w => hpl ▸ place_any off h0 w
  have hbest : Hid (∀ w, Calls Try.prog 32 #[.agg d.cells, .int .i64 k] w fun e w' => e = .returned (.int .i64 (d.best k)) ∧ Below w.heap.size w w') := fun w => ref_best d hd k hk w
  have hs7 : d.best k ≤ 7 := bestTo_le _ _ _
  generalize d.best k = s at *
  have e0 := shl1_32 hs7
  have e1 := andNot32_i d.pend (pow2 s) hd.pend (pow2_lt hs7)
  have e2 := or32 d.cla (pow2 s) hd.cla (pow2_lt hs7)
  have hpos' : (0 : Int) < s := by omega
  have hs7' : (s : Int) ≤ 7 := by omega
  clear hpl hd hpos
  go_enter Try.func54, Try.ntmps54
  go_wp2_with fail
  refine (hw.out _).mono ?_
  rintro e w1 ⟨rfl, rfl⟩
  go_wp2_with fail
  refine (hbest.out _).mono ?_
  rintro e w3 ⟨rfl, hb⟩
  have hh : w3.heap[w.heap.size]? = some (.cells d.cells 61 (0, 0)) := (hb.block _ (by simp; omega)).trans ((blk_alloc_old (w.alloc _) _ _ (by simp)).trans (blk_alloc _ _))
  have hr : rowIs w3 (w.heap.size + 1) 22 = true := by
    unfold rowIs
    rw [hb.block _ (by simp)]
    exact (is_alloc (w.alloc (.cells d.cells 61)) _ (w.heap.size + 1) 22).trans (by simp [go_sem])
  have hB : Below w.heap.size w w3 := below_then (base2 w _ _) hb (by simp; omega)
  have c11 : w3.cell? ⟨w.heap.size, 11, none⟩ = some (.int .u32 d.pend) := blk_cell hh 11
  have c12 : w3.cell? ⟨w.heap.size, 12, none⟩ = some (.int .u32 d.cla) := blk_cell hh 12
  have f11 : w3.frozen? ⟨w.heap.size, 11, none⟩ = false := blk_frozen hh 11
  have f12 : w3.frozen? ⟨w.heap.size, 12, none⟩ = false := blk_frozen hh 12
  have hr0 : rowIs w3 w.heap.size 22 = true := rowIs_of hh
  have hr1 : rowOf w3 w.heap.size = d.cells := rowOf_of hh
  have HB := Lib.hid hB; clear hB hb hh
  go_wp2
  go_region
  go_wp2
  exact bodyPost_ret (res_tct _ _ _ (w.heap.size + 1) (d.claim s).cells rfl (lvs_ref _ _ _ (by simp [go_sem, hr]) rfl) rfl) rfl ⟨rfl, below_setRow ((HB.out.setCell (by simp) _).setCell (by simp) _).drew (by omega) _⟩
set_option maxRecDepth 100000 in
set_option maxHeartbeats 2000000 in
theorem refp_read5z (d : Dev) (hd : d.Ok) (off : Int) (h0 : 0 ≤ off) (k : Nat) (hk : k < 2) (hpl : placeOf off = (5, (k : Int))) (hz : d.best k = 0) (w : World) :
    Calls Try.prog 54 #[.agg d.cells, .int .u64 off, .int .i64 4] w (RefRead w 0 d 0) := by
  have hw : Hid (∀ w, Calls Try.prog 73 #[.int .u64 off] w (PlaceIs w (5, k))) := fun w => hpl ▸ place_any off h0 w
  have hbest : Hid (∀ w, Calls Try.prog 32 #[.agg d.cells, .int .i64 k] w fun e w' => e = .returned (.int .i64 0) ∧ Below w.heap.size w w') := fun w => by have := ref_best d hd k hk w; rw [hz] at this; exact this
  clear hpl hd hz
  go_enter Try.func54, Try.ntmps54
  go_wp2_with fail
  refine (hw.out _).mono ?_
  rintro e w1 ⟨rfl, rfl⟩
  go_wp2_with fail
  refine (hbest.out _).mono ?_
  rintro e w3 ⟨rfl, hb⟩
  have hh : w3.heap[w.heap.size]? = some (.cells d.cells 61 (0, 0)) := (hb.block _ (by simp; omega)).trans ((blk_alloc_old (w.alloc _) _ _ (by simp)).trans (blk_alloc _ _))
  have hr : rowIs w3 (w.heap.size + 1) 22 = true := by
    unfold rowIs
    rw [hb.block _ (by simp)]
    exact (is_alloc (w.alloc (.cells d.cells 61)) _ (w.heap.size + 1) 22).trans (by simp [go_sem])
  have hB : Below w.heap.size w w3 := below_then (base2 w _ _) hb (by simp; omega)
  have hr0 : rowIs w3 w.heap.size 22 = true := rowIs_of hh
  have hr1 : rowOf w3 w.heap.size = d.cells := rowOf_of hh
  have HB := Lib.hid hB; clear hB hb hh
  go_wp2
  go_region
  go_wp2
  exact bodyPost_ret (res_tct _ _ _ (w.heap.size + 1) d.cells rfl (lvs_ref _ _ _ (by simp [go_sem, hr]) rfl) rfl) rfl ⟨rfl, below_setRow HB.out.drew (by omega) _⟩
end Go.Proofs.Ytebdbbpefmgooaa
