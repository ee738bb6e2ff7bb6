/- The reference PLIC: its lines, walked. No condition. -/
import Derived.Test.YtebdbbpefmgooaaPlic11
import Derived.StillTailTactics
import Derived.BigRegion
import Derived.Deep.RegionWith
import Derived.Deep.QuietTactic
import Derived.BigQuiet
import Derived.Deep.LoopGhost
import Derived.Deep.DeepCutAuto
import Derived.Deep.DeepFit
import Derived.Deep.DeepMust
set_option linter.unusedVariables false
set_option linter.unusedSimpArgs false
namespace Go.Proofs.Ytebdbbpefmgooaa
open Go.RowKit
attribute [local go_sem ↓] ld_dev ld_ref ld_plc st_dev st_ref st_plc
attribute [local go_sem] rl_dev rl_ref rl_plc rs_dev rs_ref rs_plc Dev.size_cells Dev.st_ok Dev.c0 Dev.c1 Dev.c2 Dev.c3 Dev.c4 Dev.c5 Dev.c6 Dev.c7 Dev.c8 Dev.c9 Dev.c10 Dev.c11 Dev.c12 Dev.c13 Dev.c14 Dev.c15 Dev.c16 Dev.c17 Dev.c18 Dev.c19 Dev.c20 Dev.c21 Dev.set_pend Dev.set_cla row_alloc row_drew row_drewN is_alloc is_drew is_drewN row_setCell is_setCell setRow_alloc_new objRow_cells objIs_cells row_setRow_same row_setRow_other is_setRow_same is_setRow_other
set_option maxRecDepth 100000 in
set_option maxHeartbeats 4000000 in
theorem refp_lines00 (d : Dev) (hd : d.Ok) (w : World) (t0 : ¬ d.th 0 < d.pr (d.best 0)) (t1 : ¬ d.th 1 < d.pr (d.best 1)) : Calls Try.prog 57 #[.agg d.cells] w fun e w' => e = .returned (.int .u64 (0 : Int)) ∧ Below w.heap.size w w' := by
  have hb0 : Hid (∀ w, Calls Try.prog 32 #[.agg d.cells, .int .i64 0] w fun e w' => e = .returned (.int .i64 (d.best 0)) ∧ Below w.heap.size w w') := fun w => ref_best d hd 0 (by omega) w
  have hb1 : Hid (∀ w, Calls Try.prog 32 #[.agg d.cells, .int .i64 1] w fun e w' => e = .returned (.int .i64 (d.best 1)) ∧ Below w.heap.size w w') := fun w => ref_best d hd 1 (by omega) w
  have l0 := d.best_le 0
  have l1 := d.best_le 1
  generalize d.best 0 = s0 at *
  generalize d.best 1 = s1 at *
  have c0 : d.cells[3 + s0]? = some (.int .u32 (d.pr s0)) := d.cell_pr _ (by omega)
  have c1 : d.cells[3 + s1]? = some (.int .u32 (d.pr s1)) := d.cell_pr _ (by omega)
  have l0' : (s0 : Int) < 8 := by omega
  have l1' : (s1 : Int) < 8 := by omega
  have T0 : Hid (decide (d.th 0 < d.pr s0) = false) := by show _ = _; simp; omega
  have T1 : Hid (decide (d.th 1 < d.pr s1) = false) := by show _ = _; simp; omega
  clear hd l0 l1 t0 t1
  go_enter Try.func57, Try.ntmps57
  go_upto_region 2 with fail
  go_cut [14] (fun s wx => s = .bool false ∧ wx.heap[w.heap.size]? = some (.cells d.cells 61 (0, 0)) ∧ Below w.heap.size w wx)
  case first =>
    go_region_with (go_at_call 32; refine (hb0.out _).mono ?_; rintro e w8 ⟨rfl, hb8⟩; have hh8 : w8.heap[w.heap.size]? = some (.cells d.cells 61 (0, 0)) := (hb8.block _ (by simp)).trans (blk_alloc w _); have c8 := (blk_cell hh8 (3 + s0)).trans c0; have e8 : w8.cell? ⟨w.heap.size, 15, none⟩ = some (.int .u32 (d.th 0)) := blk_cell hh8 15; have HH8 := Lib.hid hh8; have HB8 : Hid (Below w.heap.size w w8) := below_then ((Below.refl _ _).alloc (Nat.le_refl _) _).drew hb8 (by simp); clear hb8 hh8)
    all_goals (go_wp2_with fail; go_meet; exact ⟨congrArg Value.bool T0.out, HH8.out, HB8.out⟩)
  case rest =>
    obtain ⟨rfl, hh, hb⟩ := hcut
    have hlt := blk_lt hh
    have c5 := (blk_cell hh (3 + s1)).trans c1
    have e5 := (blk_cell hh 16).trans d.c16
    have hr0 : rowIs _ w.heap.size 22 = true := rowIs_of hh
    have hr1 := rowOf_of hh
    have HH := Lib.hid hh; have HB := Lib.hid hb; clear hh hb
    go_upto_region 4 with fail
    go_cut [27] (fun s wx => s = .bool false ∧ Below w.heap.size w wx)
    case first =>
      go_region_with (go_at_call 32; refine (hb1.out _).mono ?_; rintro e w8 ⟨rfl, hb8⟩; have hh8 : w8.heap[w.heap.size]? = some (.cells d.cells 61 (0, 0)) := (hb8.block _ (by simpa using hlt)).trans HH.out; have c8 := (blk_cell hh8 (3 + s1)).trans c1; have e8 : w8.cell? ⟨w.heap.size, 16, none⟩ = some (.int .u32 (d.th 1)) := blk_cell hh8 16; have HB8 : Hid (Below w.heap.size w w8) := below_then HB.out.drew hb8 HB.out.size; clear hb8 hh8)
      all_goals (go_wp2_with fail; go_meet; exact ⟨congrArg Value.bool T1.out, HB8.out⟩)
    case rest =>
      obtain ⟨rfl, hb⟩ := hcut
      have HB := Lib.hid hb; clear hb
      go_wp2
      go_ret
      exact ⟨rfl, HB.out⟩
set_option maxRecDepth 100000 in
set_option maxHeartbeats 4000000 in
theorem refp_lines01 (d : Dev) (hd : d.Ok) (w : World) (t0 : ¬ d.th 0 < d.pr (d.best 0)) (t1 : d.th 1 < d.pr (d.best 1)) : Calls Try.prog 57 #[.agg d.cells] w fun e w' => e = .returned (.int .u64 (512 : Int)) ∧ Below w.heap.size w w' := by
  have hb0 : Hid (∀ w, Calls Try.prog 32 #[.agg d.cells, .int .i64 0] w fun e w' => e = .returned (.int .i64 (d.best 0)) ∧ Below w.heap.size w w') := fun w => ref_best d hd 0 (by omega) w
  have hb1 : Hid (∀ w, Calls Try.prog 32 #[.agg d.cells, .int .i64 1] w fun e w' => e = .returned (.int .i64 (d.best 1)) ∧ Below w.heap.size w w') := fun w => ref_best d hd 1 (by omega) w
  have l0 := d.best_le 0
  have l1 := d.best_le 1
  generalize d.best 0 = s0 at *
  generalize d.best 1 = s1 at *
  have c0 : d.cells[3 + s0]? = some (.int .u32 (d.pr s0)) := d.cell_pr _ (by omega)
  have c1 : d.cells[3 + s1]? = some (.int .u32 (d.pr s1)) := d.cell_pr _ (by omega)
  have l0' : (s0 : Int) < 8 := by omega
  have l1' : (s1 : Int) < 8 := by omega
  have T0 : Hid (decide (d.th 0 < d.pr s0) = false) := by show _ = _; simp; omega
  have T1 : Hid (decide (d.th 1 < d.pr s1) = true) := by show _ = _; simp; omega
  clear hd l0 l1 t0 t1
  go_enter Try.func57, Try.ntmps57
  go_upto_region 2 with fail
  go_cut [14] (fun s wx => s = .bool false ∧ wx.heap[w.heap.size]? = some (.cells d.cells 61 (0, 0)) ∧ Below w.heap.size w wx)
  case first =>
    go_region_with (go_at_call 32; refine (hb0.out _).mono ?_; rintro e w8 ⟨rfl, hb8⟩; have hh8 : w8.heap[w.heap.size]? = some (.cells d.cells 61 (0, 0)) := (hb8.block _ (by simp)).trans (blk_alloc w _); have c8 := (blk_cell hh8 (3 + s0)).trans c0; have e8 : w8.cell? ⟨w.heap.size, 15, none⟩ = some (.int .u32 (d.th 0)) := blk_cell hh8 15; have HH8 := Lib.hid hh8; have HB8 : Hid (Below w.heap.size w w8) := below_then ((Below.refl _ _).alloc (Nat.le_refl _) _).drew hb8 (by simp); clear hb8 hh8)
    all_goals (go_wp2_with fail; go_meet; exact ⟨congrArg Value.bool T0.out, HH8.out, HB8.out⟩)
  case rest =>
    obtain ⟨rfl, hh, hb⟩ := hcut
    have hlt := blk_lt hh
    have c5 := (blk_cell hh (3 + s1)).trans c1
    have e5 := (blk_cell hh 16).trans d.c16
    have hr0 : rowIs _ w.heap.size 22 = true := rowIs_of hh
    have hr1 := rowOf_of hh
    have HH := Lib.hid hh; have HB := Lib.hid hb; clear hh hb
    go_upto_region 4 with fail
    go_cut [27] (fun s wx => s = .bool true ∧ Below w.heap.size w wx)
    case first =>
      go_region_with (go_at_call 32; refine (hb1.out _).mono ?_; rintro e w8 ⟨rfl, hb8⟩; have hh8 : w8.heap[w.heap.size]? = some (.cells d.cells 61 (0, 0)) := (hb8.block _ (by simpa using hlt)).trans HH.out; have c8 := (blk_cell hh8 (3 + s1)).trans c1; have e8 : w8.cell? ⟨w.heap.size, 16, none⟩ = some (.int .u32 (d.th 1)) := blk_cell hh8 16; have HB8 : Hid (Below w.heap.size w w8) := below_then HB.out.drew hb8 HB.out.size; clear hb8 hh8)
      all_goals (go_wp2_with fail; go_meet; exact ⟨congrArg Value.bool T1.out, HB8.out⟩)
    case rest =>
      obtain ⟨rfl, hb⟩ := hcut
      have HB := Lib.hid hb; clear hb
      go_wp2
      go_ret
      exact ⟨rfl, HB.out⟩
set_option maxRecDepth 100000 in
set_option maxHeartbeats 4000000 in
theorem refp_lines10 (d : Dev) (hd : d.Ok) (w : World) (t0 : d.th 0 < d.pr (d.best 0)) (t1 : ¬ d.th 1 < d.pr (d.best 1)) : Calls Try.prog 57 #[.agg d.cells] w fun e w' => e = .returned (.int .u64 (2048 : Int)) ∧ Below w.heap.size w w' := by
  have hb0 : Hid (∀ w, Calls Try.prog 32 #[.agg d.cells, .int .i64 0] w fun e w' => e = .returned (.int .i64 (d.best 0)) ∧ Below w.heap.size w w') := fun w => ref_best d hd 0 (by omega) w
  have hb1 : Hid (∀ w, Calls Try.prog 32 #[.agg d.cells, .int .i64 1] w fun e w' => e = .returned (.int .i64 (d.best 1)) ∧ Below w.heap.size w w') := fun w => ref_best d hd 1 (by omega) w
  have l0 := d.best_le 0
  have l1 := d.best_le 1
  generalize d.best 0 = s0 at *
  generalize d.best 1 = s1 at *
  have c0 : d.cells[3 + s0]? = some (.int .u32 (d.pr s0)) := d.cell_pr _ (by omega)
  have c1 : d.cells[3 + s1]? = some (.int .u32 (d.pr s1)) := d.cell_pr _ (by omega)
  have l0' : (s0 : Int) < 8 := by omega
  have l1' : (s1 : Int) < 8 := by omega
  have T0 : Hid (decide (d.th 0 < d.pr s0) = true) := by show _ = _; simp; omega
  have T1 : Hid (decide (d.th 1 < d.pr s1) = false) := by show _ = _; simp; omega
  clear hd l0 l1 t0 t1
  go_enter Try.func57, Try.ntmps57
  go_upto_region 2 with fail
  go_cut [14] (fun s wx => s = .bool true ∧ wx.heap[w.heap.size]? = some (.cells d.cells 61 (0, 0)) ∧ Below w.heap.size w wx)
  case first =>
    go_region_with (go_at_call 32; refine (hb0.out _).mono ?_; rintro e w8 ⟨rfl, hb8⟩; have hh8 : w8.heap[w.heap.size]? = some (.cells d.cells 61 (0, 0)) := (hb8.block _ (by simp)).trans (blk_alloc w _); have c8 := (blk_cell hh8 (3 + s0)).trans c0; have e8 : w8.cell? ⟨w.heap.size, 15, none⟩ = some (.int .u32 (d.th 0)) := blk_cell hh8 15; have HH8 := Lib.hid hh8; have HB8 : Hid (Below w.heap.size w w8) := below_then ((Below.refl _ _).alloc (Nat.le_refl _) _).drew hb8 (by simp); clear hb8 hh8)
    all_goals (go_wp2_with fail; go_meet; exact ⟨congrArg Value.bool T0.out, HH8.out, HB8.out⟩)
  case rest =>
    obtain ⟨rfl, hh, hb⟩ := hcut
    have hlt := blk_lt hh
    have c5 := (blk_cell hh (3 + s1)).trans c1
    have e5 := (blk_cell hh 16).trans d.c16
    have hr0 : rowIs _ w.heap.size 22 = true := rowIs_of hh
    have hr1 := rowOf_of hh
    have HH := Lib.hid hh; have HB := Lib.hid hb; clear hh hb
    go_upto_region 4 with fail
    go_cut [27] (fun s wx => s = .bool false ∧ Below w.heap.size w wx)
    case first =>
      go_region_with (go_at_call 32; refine (hb1.out _).mono ?_; rintro e w8 ⟨rfl, hb8⟩; have hh8 : w8.heap[w.heap.size]? = some (.cells d.cells 61 (0, 0)) := (hb8.block _ (by simpa using hlt)).trans HH.out; have c8 := (blk_cell hh8 (3 + s1)).trans c1; have e8 : w8.cell? ⟨w.heap.size, 16, none⟩ = some (.int .u32 (d.th 1)) := blk_cell hh8 16; have HB8 : Hid (Below w.heap.size w w8) := below_then HB.out.drew hb8 HB.out.size; clear hb8 hh8)
      all_goals (go_wp2_with fail; go_meet; exact ⟨congrArg Value.bool T1.out, HB8.out⟩)
    case rest =>
      obtain ⟨rfl, hb⟩ := hcut
      have HB := Lib.hid hb; clear hb
      go_wp2
      go_ret
      exact ⟨rfl, HB.out⟩
set_option maxRecDepth 100000 in
set_option maxHeartbeats 4000000 in
theorem refp_lines11 (d : Dev) (hd : d.Ok) (w : World) (t0 : d.th 0 < d.pr (d.best 0)) (t1 : d.th 1 < d.pr (d.best 1)) : Calls Try.prog 57 #[.agg d.cells] w fun e w' => e = .returned (.int .u64 (2560 : Int)) ∧ Below w.heap.size w w' := by
  have hb0 : Hid (∀ w, Calls Try.prog 32 #[.agg d.cells, .int .i64 0] w fun e w' => e = .returned (.int .i64 (d.best 0)) ∧ Below w.heap.size w w') := fun w => ref_best d hd 0 (by omega) w
  have hb1 : Hid (∀ w, Calls Try.prog 32 #[.agg d.cells, .int .i64 1] w fun e w' => e = .returned (.int .i64 (d.best 1)) ∧ Below w.heap.size w w') := fun w => ref_best d hd 1 (by omega) w
  have l0 := d.best_le 0
  have l1 := d.best_le 1
  generalize d.best 0 = s0 at *
  generalize d.best 1 = s1 at *
  have c0 : d.cells[3 + s0]? = some (.int .u32 (d.pr s0)) := d.cell_pr _ (by omega)
  have c1 : d.cells[3 + s1]? = some (.int .u32 (d.pr s1)) := d.cell_pr _ (by omega)
  have l0' : (s0 : Int) < 8 := by omega
  have l1' : (s1 : Int) < 8 := by omega
  have T0 : Hid (decide (d.th 0 < d.pr s0) = true) := by show _ = _; simp; omega
  have T1 : Hid (decide (d.th 1 < d.pr s1) = true) := by show _ = _; simp; omega
  clear hd l0 l1 t0 t1
  go_enter Try.func57, Try.ntmps57
  go_upto_region 2 with fail
  go_cut [14] (fun s wx => s = .bool true ∧ wx.heap[w.heap.size]? = some (.cells d.cells 61 (0, 0)) ∧ Below w.heap.size w wx)
  case first =>
    go_region_with (go_at_call 32; refine (hb0.out _).mono ?_; rintro e w8 ⟨rfl, hb8⟩; have hh8 : w8.heap[w.heap.size]? = some (.cells d.cells 61 (0, 0)) := (hb8.block _ (by simp)).trans (blk_alloc w _); have c8 := (blk_cell hh8 (3 + s0)).trans c0; have e8 : w8.cell? ⟨w.heap.size, 15, none⟩ = some (.int .u32 (d.th 0)) := blk_cell hh8 15; have HH8 := Lib.hid hh8; have HB8 : Hid (Below w.heap.size w w8) := below_then ((Below.refl _ _).alloc (Nat.le_refl _) _).drew hb8 (by simp); clear hb8 hh8)
    all_goals (go_wp2_with fail; go_meet; exact ⟨congrArg Value.bool T0.out, HH8.out, HB8.out⟩)
  case rest =>
    obtain ⟨rfl, hh, hb⟩ := hcut
    have hlt := blk_lt hh
    have c5 := (blk_cell hh (3 + s1)).trans c1
    have e5 := (blk_cell hh 16).trans d.c16
    have hr0 : rowIs _ w.heap.size 22 = true := rowIs_of hh
    have hr1 := rowOf_of hh
    have HH := Lib.hid hh; have HB := Lib.hid hb; clear hh hb
    go_upto_region 4 with fail
    go_cut [27] (fun s wx => s = .bool true ∧ Below w.heap.size w wx)
    case first =>
      go_region_with (go_at_call 32; refine (hb1.out _).mono ?_; rintro e w8 ⟨rfl, hb8⟩; have hh8 : w8.heap[w.heap.size]? = some (.cells d.cells 61 (0, 0)) := (hb8.block _ (by simpa using hlt)).trans HH.out; have c8 := (blk_cell hh8 (3 + s1)).trans c1; have e8 : w8.cell? ⟨w.heap.size, 16, none⟩ = some (.int .u32 (d.th 1)) := blk_cell hh8 16; have HB8 : Hid (Below w.heap.size w w8) := below_then HB.out.drew hb8 HB.out.size; clear hb8 hh8)
      all_goals (go_wp2_with fail; go_meet; exact ⟨congrArg Value.bool T1.out, HB8.out⟩)
    case rest =>
      obtain ⟨rfl, hb⟩ := hcut
      have HB := Lib.hid hb; clear hb
      go_wp2
      go_ret
      exact ⟨rfl, HB.out⟩
theorem refp_lines (d : Dev) (hd : d.Ok) (w : World) : Calls Try.prog 57 #[.agg d.cells] w fun e w' => e = .returned (.int .u64 (d.lns : Nat)) ∧ Below w.heap.size w w' := by
  unfold Dev.lns
  by_cases t0 : d.th 0 < d.pr (d.best 0) <;> by_cases t1 : d.th 1 < d.pr (d.best 1)
  · rw [if_pos t0, if_pos t1]; exact refp_lines11 d hd w t0 t1
  · rw [if_pos t0, if_neg t1]; exact refp_lines10 d hd w t0 t1
  · rw [if_neg t0, if_pos t1]; exact refp_lines01 d hd w t0 t1
  · rw [if_neg t0, if_neg t1]; exact refp_lines00 d hd w t0 t1
set_option maxRecDepth 100000 in
set_option maxHeartbeats 1000000 in
theorem ref_best_out (d : Dev) (c : Int) (h : ((c == 0) = false) ∧ ((c == 1) = false)) (w : World) :
    Calls Try.prog 32 #[.agg d.cells, .int .i64 c] w fun e w' => e = .returned (.int .i64 0) ∧ Below w.heap.size w w' := by
  obtain ⟨h0, h1⟩ := h
  have h0' : (c != 0) = true := by simpa [bne] using h0
  have h1' : (c != 1) = true := by simpa [bne] using h1
  go_enter Try.func32, Try.ntmps32
  go_wp2
  go_ret
  exact ⟨rfl, (Below.refl _ _).alloc (Nat.le_refl _) _⟩
end Go.Proofs.Ytebdbbpefmgooaa
