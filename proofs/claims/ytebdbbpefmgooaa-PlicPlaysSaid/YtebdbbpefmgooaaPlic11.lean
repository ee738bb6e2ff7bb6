/- The PLIC: lines, state, new; whatever is read or written of the reference. No condition. -/
import Derived.Test.YtebdbbpefmgooaaPlic10
import Derived.StillTailTactics
import Derived.BigRegion
import Derived.Deep.RegionWith
import Derived.Deep.QuietTactic
import Derived.BigQuiet
import Derived.Deep.LoopGhost
import Derived.Deep.DeepCutAuto
import Derived.Deep.DeepFit
import Derived.Deep.DeepMust
set_option linter.unusedVariables false
set_option linter.unusedSimpArgs false
namespace Go.Proofs.Ytebdbbpefmgooaa
open Go.RowKit
attribute [local go_sem ↓] ld_dev ld_ref ld_plc st_dev st_ref st_plc
attribute [local go_sem] rl_dev rl_ref rl_plc rs_dev rs_ref rs_plc Dev.size_cells Dev.st_ok Dev.c0 Dev.c1 Dev.c2 Dev.c3 Dev.c4 Dev.c5 Dev.c6 Dev.c7 Dev.c8 Dev.c9 Dev.c10 Dev.c11 Dev.c12 Dev.c13 Dev.c14 Dev.c15 Dev.c16 Dev.c17 Dev.c18 Dev.c19 Dev.c20 Dev.c21 Dev.set_pend Dev.set_cla row_alloc row_drew row_drewN is_alloc is_drew is_drewN row_setCell is_setCell setRow_alloc_new objRow_cells objIs_cells row_setRow_same row_setRow_other is_setRow_same is_setRow_other
/-- whatever is written into the reference -/
theorem refp_write_any (d : Dev) (hd : d.Ok) (off size : Int) (h0 : 0 ≤ off) (v : Nat) (hv : v < 2 ^ 64) (w : World) :
    Calls Try.prog 55 #[.agg d.cells, .int .u64 off, .int .i64 size, .int .u64 v] w (RefWrote w (d.write off size v).2 (d.write off size v).1) := by
  unfold Dev.write
  by_cases hs : size = 4
  · subst hs
    rw [if_pos rfl]
    rcases place_cases off with h | ⟨k, h1, h2, h⟩ | h | ⟨k, h2, h⟩ | ⟨k, h2, h⟩ | ⟨k, h2, h⟩ <;> simp only [h, Int.toNat_natCast, if_pos, if_neg, reduceIte, Int.reduceEq]
    · exact refp_write0 d off 4 v h0 h w
    · exact refp_write1 d off h0 v hv k h2 h w
    · exact refp_write2 d off 4 v h0 h w
    · exact refp_write3 d off h0 v hv k h2 h w
    · exact refp_write4 d off h0 v hv k h2 h w
    · by_cases hV : 1 ≤ lo32 v ∧ lo32 v ≤ 7
      · rw [if_pos hV]
        have he := complete_eq d hd k (lo32 v) h2 hV.2
        unfold Dev.complete
        rw [he]
        by_cases ht : (d.cla &&& d.en k).testBit (lo32 v) = true
        · rw [if_pos ht]; exact refp_write5y d hd off h0 v hv k h2 h hV.1 hV.2 ht w
        · rw [if_neg ht]; exact refp_write5n d hd off h0 v hv k h2 h hV.1 hV.2 (by simpa using ht) w
      · rw [if_neg hV]
        by_cases hlo : lo32 v < 1
        · exact refp_write5lo d hd off h0 v hv k h2 h hlo w
        · exact refp_write5hi d hd off h0 v hv k h2 h (by omega) w
  · rw [if_neg hs]
    have hs' : (size != 4) = true := by simpa using hs
    rcases place_cases off with h | ⟨k, h1, h2, h⟩ | h | ⟨k, h2, h⟩ | ⟨k, h2, h⟩ | ⟨k, h2, h⟩
    · exact refp_write0 d off size v h0 h w
    · exact refp_write_size d off size v h0 (by rw [h]; rfl) (by rw [h]; rfl) hs' w
    · exact refp_write2 d off size v h0 h w
    · exact refp_write_size d off size v h0 (by rw [h]; rfl) (by rw [h]; rfl) hs' w
    · exact refp_write_size d off size v h0 (by rw [h]; rfl) (by rw [h]; rfl) hs' w
    · exact refp_write_size d off size v h0 (by rw [h]; rfl) (by rw [h]; rfl) hs' w
/-- whatever is read of the reference -/
theorem refp_read_any (d : Dev) (hd : d.Ok) (off size : Int) (h0 : 0 ≤ off) (w : World) :
    Calls Try.prog 54 #[.agg d.cells, .int .u64 off, .int .i64 size] w (RefRead w (d.read off size).1 (d.read off size).2.2 (d.read off size).2.1) := by
  unfold Dev.read
  by_cases hs : size = 4
  · subst hs
    rw [if_pos rfl]
    rcases place_cases off with h | ⟨k, h1, h2, h⟩ | h | ⟨k, h2, h⟩ | ⟨k, h2, h⟩ | ⟨k, h2, h⟩ <;> simp only [h, Int.toNat_natCast, if_pos, if_neg, reduceIte, Int.reduceEq]
    · exact refp_read0 d off 4 h0 h w
    · exact refp_read1 d hd off h0 k h2 h w
    · exact refp_read2 d hd off h0 h w
    · exact refp_read3 d hd off h0 k h2 h w
    · exact refp_read4 d hd off h0 k h2 h w
    · by_cases hz : d.best k = 0
      · rw [hz, if_pos rfl]; exact refp_read5z d hd off h0 k h2 h hz w
      · rw [if_neg hz]; exact refp_read5 d hd off h0 k h2 h (by omega) w
  · rw [if_neg hs]
    have hs' : (size != 4) = true := by simpa using hs
    rcases place_cases off with h | ⟨k, h1, h2, h⟩ | h | ⟨k, h2, h⟩ | ⟨k, h2, h⟩ | ⟨k, h2, h⟩
    · exact refp_read0 d off size h0 h w
    all_goals exact refp_read_size d off size h0 (by rw [h]; rfl) hs' w

/-- the lines that are up -/
def Dev.lns (d : Dev) : Nat := (if d.th 0 < d.pr (d.best 0) then 2048 else 0) ||| (if d.th 1 < d.pr (d.best 1) then 512 else 0)
set_option maxRecDepth 100000 in
set_option maxHeartbeats 2000000 in
theorem plic_new (w : World) : Calls Try.prog 24 #[] w fun e w' => e = .returned (.pointer (some ⟨w.heap.size, 0, none⟩)) ∧ w' = w.alloc (.cells (Dev.cells ⟨false, 0, 0, fun _ => 0, 0, 0, fun _ => 0, fun _ => 0, 0, none, 0, 0, none, 0, 0, 0, false⟩) 102) := by
  go_enter Try.func24, Try.ntmps24
  go_wp2
  go_ret
  exact ⟨rfl, rfl⟩
set_option maxRecDepth 100000 in
set_option maxHeartbeats 2000000 in
theorem plic_state (d : Dev) (b : Nat) (w : World) (hp : PlicAt w b d) : Calls Try.prog 34 #[.pointer (some ⟨b, 0, none⟩)] w (RefIs w d) := by
  have hb : b < w.heap.size := blk_lt hp
  have hr0 : rowIs w b 22 = true := rowIs_of hp
  have hr1 : rowOf w b = d.cells := rowOf_of hp
  have hne : ¬ b = w.heap.size := by omega
  go_enter Try.func34, Try.ntmps34
  go_wp2
  exact bodyPost_ret (res_c _ _ (w.alloc (.cells d.cells 59)) w.heap.size d.cells rfl (lv_dev _ _ _ (by rw [is_alloc, if_pos rfl]; rfl) (by rw [row_alloc, if_pos rfl]; rfl)) rfl) rfl ⟨rfl, (Below.refl _ _).alloc (Nat.le_refl _) _⟩
set_option maxRecDepth 100000 in
set_option maxHeartbeats 2000000 in
theorem plic_state_nil (w : World) : Calls Try.prog 34 #[.pointer none] w (RefIs w ⟨false, 0, 0, fun _ => 0, 0, 0, fun _ => 0, fun _ => 0, 0, none, 0, 0, none, 0, 0, 0, false⟩) := by
  have hz : stOk 22 #[.bool false, .int .u64 0, .int .u64 0, .int .u32 0, .int .u32 0, .int .u32 0, .int .u32 0, .int .u32 0, .int .u32 0, .int .u32 0, .int .u32 0, .int .u32 0, .int .u32 0, .int .u32 0, .int .u32 0, .int .u32 0, .int .u32 0, .int .u32 0, .slice none 0 0, .slice none 0 0, .int .u32 0, .bool false] = true := by simp [stOk, Value.oneCell']
  go_enter Try.func34, Try.ntmps34
  go_wp2
  exact bodyPost_ret (res_c _ _ (w.alloc (.cells #[.bool false, .int .u64 0, .int .u64 0, .int .u32 0, .int .u32 0, .int .u32 0, .int .u32 0, .int .u32 0, .int .u32 0, .int .u32 0, .int .u32 0, .int .u32 0, .int .u32 0, .int .u32 0, .int .u32 0, .int .u32 0, .int .u32 0, .int .u32 0, .slice none 0 0, .slice none 0 0, .int .u32 0, .bool false] 59)) w.heap.size _ rfl (lv_dev _ _ _ (by rw [is_alloc, if_pos rfl]; rfl) (by rw [row_alloc, if_pos rfl]; rfl)) rfl) rfl ⟨rfl, (Below.refl _ _).alloc (Nat.le_refl _) _⟩
theorem ln_i0 (w : World) : (Instr.index 105 (.agg #[Value.int IntKind.i64 11, Value.int IntKind.i64 9]) (.int .i64 0)).run Try.prog w = .ok (.int .i64 11) w := by kernel_rfl
theorem ln_i1 (w : World) : (Instr.index 105 (.agg #[Value.int IntKind.i64 11, Value.int IntKind.i64 9]) (.int .i64 1)).run Try.prog w = .ok (.int .i64 9) w := by kernel_rfl
set_option maxRecDepth 100000 in
set_option maxHeartbeats 4000000 in
theorem plic_lines00 (d : Dev) (hd : d.Ok) (b : Nat) (w : World) (hp : PlicAt w b d) (t0 : ¬ d.th 0 < d.pr (d.best 0)) (t1 : ¬ d.th 1 < d.pr (d.best 1)) : Calls Try.prog 29 #[.pointer (some ⟨b, 0, none⟩)] w fun e w' => e = .returned (.int .u64 (0 : Int)) ∧ ∃ n, w' = w.drewN n := by
  have hb0 : Hid (∀ w, PlicAt w b d → Calls Try.prog 30 #[.pointer (some ⟨b, 0, none⟩), .int .i64 0] w fun e w' => e = .returned (.int .i64 (d.best 0)) ∧ ∃ n, w' = w.drewN n) := fun w h => plic_best d hd b 0 (by omega) w h
  have hb1 : Hid (∀ w, PlicAt w b d → Calls Try.prog 30 #[.pointer (some ⟨b, 0, none⟩), .int .i64 1] w fun e w' => e = .returned (.int .i64 (d.best 1)) ∧ ∃ n, w' = w.drewN n) := fun w h => plic_best d hd b 1 (by omega) w h
  have l0 := d.best_le 0
  have l1 := d.best_le 1
  generalize d.best 0 = s0 at *
  generalize d.best 1 = s1 at *
  have c0 : w.cell? ⟨b, 3 + s0, none⟩ = some (.int .u32 (d.pr s0)) := (blk_cell hp _).trans (d.cell_pr _ (by omega))
  have c1 : w.cell? ⟨b, 3 + s1, none⟩ = some (.int .u32 (d.pr s1)) := (blk_cell hp _).trans (d.cell_pr _ (by omega))
  have c2 : w.cell? ⟨b, 15, none⟩ = some (.int .u32 (d.th 0)) := blk_cell hp 15
  have c3 : w.cell? ⟨b, 16, none⟩ = some (.int .u32 (d.th 1)) := blk_cell hp 16
  have l0' : (s0 : Int) < 8 := by omega
  have l1' : (s1 : Int) < 8 := by omega
  have T0 : ¬ ((d.th 0 : Int) < d.pr s0) := by omega
  have T1 : ¬ ((d.th 1 : Int) < d.pr s1) := by omega
  have HP := Lib.hid hp
  clear hp hd l0 l1 t0 t1
  have i0 := ln_i0
  have i1 := ln_i1
  go_enter Try.func29, Try.ntmps29
  go_wp2_with fail
  refine wp_loop_rounds 3 ?_
  rw [rounds_succ]
  go_wp2_with fail
  go_quiet ((go_at_call 30; exact Calls.quiet_of (hb0.out _ HP.out)))
  go_wp2_with fail
  rw [rounds_succ]
  go_wp2_with fail
  go_quiet ((go_at_call 30; exact q_draws (hb1.out _ HP.out)))
  go_wp2_with fail
  rw [rounds_succ]
  go_wp2_with fail
  go_ret
  exact ⟨rfl, _, rfl⟩
set_option maxRecDepth 100000 in
set_option maxHeartbeats 4000000 in
theorem plic_lines01 (d : Dev) (hd : d.Ok) (b : Nat) (w : World) (hp : PlicAt w b d) (t0 : ¬ d.th 0 < d.pr (d.best 0)) (t1 : d.th 1 < d.pr (d.best 1)) : Calls Try.prog 29 #[.pointer (some ⟨b, 0, none⟩)] w fun e w' => e = .returned (.int .u64 (512 : Int)) ∧ ∃ n, w' = w.drewN n := by
  have hb0 : Hid (∀ w, PlicAt w b d → Calls Try.prog 30 #[.pointer (some ⟨b, 0, none⟩), .int .i64 0] w fun e w' => e = .returned (.int .i64 (d.best 0)) ∧ ∃ n, w' = w.drewN n) := fun w h => plic_best d hd b 0 (by omega) w h
  have hb1 : Hid (∀ w, PlicAt w b d → Calls Try.prog 30 #[.pointer (some ⟨b, 0, none⟩), .int .i64 1] w fun e w' => e = .returned (.int .i64 (d.best 1)) ∧ ∃ n, w' = w.drewN n) := fun w h => plic_best d hd b 1 (by omega) w h
  have l0 := d.best_le 0
  have l1 := d.best_le 1
  generalize d.best 0 = s0 at *
  generalize d.best 1 = s1 at *
  have c0 : w.cell? ⟨b, 3 + s0, none⟩ = some (.int .u32 (d.pr s0)) := (blk_cell hp _).trans (d.cell_pr _ (by omega))
  have c1 : w.cell? ⟨b, 3 + s1, none⟩ = some (.int .u32 (d.pr s1)) := (blk_cell hp _).trans (d.cell_pr _ (by omega))
  have c2 : w.cell? ⟨b, 15, none⟩ = some (.int .u32 (d.th 0)) := blk_cell hp 15
  have c3 : w.cell? ⟨b, 16, none⟩ = some (.int .u32 (d.th 1)) := blk_cell hp 16
  have l0' : (s0 : Int) < 8 := by omega
  have l1' : (s1 : Int) < 8 := by omega
  have T0 : ¬ ((d.th 0 : Int) < d.pr s0) := by omega
  have T1 : (d.th 1 : Int) < d.pr s1 := by omega
  have HP := Lib.hid hp
  clear hp hd l0 l1 t0 t1
  have i0 := ln_i0
  have i1 := ln_i1
  go_enter Try.func29, Try.ntmps29
  go_wp2_with fail
  refine wp_loop_rounds 3 ?_
  rw [rounds_succ]
  go_wp2_with fail
  go_quiet ((go_at_call 30; exact Calls.quiet_of (hb0.out _ HP.out)))
  go_wp2_with fail
  rw [rounds_succ]
  go_wp2_with fail
  go_quiet ((go_at_call 30; exact q_draws (hb1.out _ HP.out)))
  go_wp2_with fail
  rw [rounds_succ]
  go_wp2_with fail
  go_ret
  exact ⟨rfl, _, rfl⟩
set_option maxRecDepth 100000 in
set_option maxHeartbeats 4000000 in
theorem plic_lines10 (d : Dev) (hd : d.Ok) (b : Nat) (w : World) (hp : PlicAt w b d) (t0 : d.th 0 < d.pr (d.best 0)) (t1 : ¬ d.th 1 < d.pr (d.best 1)) : Calls Try.prog 29 #[.pointer (some ⟨b, 0, none⟩)] w fun e w' => e = .returned (.int .u64 (2048 : Int)) ∧ ∃ n, w' = w.drewN n := by
  have hb0 : Hid (∀ w, PlicAt w b d → Calls Try.prog 30 #[.pointer (some ⟨b, 0, none⟩), .int .i64 0] w fun e w' => e = .returned (.int .i64 (d.best 0)) ∧ ∃ n, w' = w.drewN n) := fun w h => plic_best d hd b 0 (by omega) w h
  have hb1 : Hid (∀ w, PlicAt w b d → Calls Try.prog 30 #[.pointer (some ⟨b, 0, none⟩), .int .i64 1] w fun e w' => e = .returned (.int .i64 (d.best 1)) ∧ ∃ n, w' = w.drewN n) := fun w h => plic_best d hd b 1 (by omega) w h
  have l0 := d.best_le 0
  have l1 := d.best_le 1
  generalize d.best 0 = s0 at *
  generalize d.best 1 = s1 at *
  have c0 : w.cell? ⟨b, 3 + s0, none⟩ = some (.int .u32 (d.pr s0)) := (blk_cell hp _).trans (d.cell_pr _ (by omega))
  have c1 : w.cell? ⟨b, 3 + s1, none⟩ = some (.int .u32 (d.pr s1)) := (blk_cell hp _).trans (d.cell_pr _ (by omega))
  have c2 : w.cell? ⟨b, 15, none⟩ = some (.int .u32 (d.th 0)) := blk_cell hp 15
  have c3 : w.cell? ⟨b, 16, none⟩ = some (.int .u32 (d.th 1)) := blk_cell hp 16
  have l0' : (s0 : Int) < 8 := by omega
  have l1' : (s1 : Int) < 8 := by omega
  have T0 : (d.th 0 : Int) < d.pr s0 := by omega
  have T1 : ¬ ((d.th 1 : Int) < d.pr s1) := by omega
  have HP := Lib.hid hp
  clear hp hd l0 l1 t0 t1
  have i0 := ln_i0
  have i1 := ln_i1
  go_enter Try.func29, Try.ntmps29
  go_wp2_with fail
  refine wp_loop_rounds 3 ?_
  rw [rounds_succ]
  go_wp2_with fail
  go_quiet ((go_at_call 30; exact Calls.quiet_of (hb0.out _ HP.out)))
  go_wp2_with fail
  rw [rounds_succ]
  go_wp2_with fail
  go_quiet ((go_at_call 30; exact q_draws (hb1.out _ HP.out)))
  go_wp2_with fail
  rw [rounds_succ]
  go_wp2_with fail
  go_ret
  exact ⟨rfl, _, rfl⟩
set_option maxRecDepth 100000 in
set_option maxHeartbeats 4000000 in
theorem plic_lines11 (d : Dev) (hd : d.Ok) (b : Nat) (w : World) (hp : PlicAt w b d) (t0 : d.th 0 < d.pr (d.best 0)) (t1 : d.th 1 < d.pr (d.best 1)) : Calls Try.prog 29 #[.pointer (some ⟨b, 0, none⟩)] w fun e w' => e = .returned (.int .u64 (2560 : Int)) ∧ ∃ n, w' = w.drewN n := by
  have hb0 : Hid (∀ w, PlicAt w b d → Calls Try.prog 30 #[.pointer (some ⟨b, 0, none⟩), .int .i64 0] w fun e w' => e = .returned (.int .i64 (d.best 0)) ∧ ∃ n, w' = w.drewN n) := fun w h => plic_best d hd b 0 (by omega) w h
  have hb1 : Hid (∀ w, PlicAt w b d → Calls Try.prog 30 #[.pointer (some ⟨b, 0, none⟩), .int .i64 1] w fun e w' => e = .returned (.int .i64 (d.best 1)) ∧ ∃ n, w' = w.drewN n) := fun w h => plic_best d hd b 1 (by omega) w h
  have l0 := d.best_le 0
  have l1 := d.best_le 1
  generalize d.best 0 = s0 at *
  generalize d.best 1 = s1 at *
  have c0 : w.cell? ⟨b, 3 + s0, none⟩ = some (.int .u32 (d.pr s0)) := (blk_cell hp _).trans (d.cell_pr _ (by omega))
  have c1 : w.cell? ⟨b, 3 + s1, none⟩ = some (.int .u32 (d.pr s1)) := (blk_cell hp _).trans (d.cell_pr _ (by omega))
  have c2 : w.cell? ⟨b, 15, none⟩ = some (.int .u32 (d.th 0)) := blk_cell hp 15
  have c3 : w.cell? ⟨b, 16, none⟩ = some (.int .u32 (d.th 1)) := blk_cell hp 16
  have l0' : (s0 : Int) < 8 := by omega
  have l1' : (s1 : Int) < 8 := by omega
  have T0 : (d.th 0 : Int) < d.pr s0 := by omega
  have T1 : (d.th 1 : Int) < d.pr s1 := by omega
  have HP := Lib.hid hp
  clear hp hd l0 l1 t0 t1
  have i0 := ln_i0
  have i1 := ln_i1
  go_enter Try.func29, Try.ntmps29
  go_wp2_with fail
  refine wp_loop_rounds 3 ?_
  rw [rounds_succ]
  go_wp2_with fail
  go_quiet ((go_at_call 30; exact Calls.quiet_of (hb0.out _ HP.out)))
  go_wp2_with fail
  rw [rounds_succ]
  go_wp2_with fail
  go_quiet ((go_at_call 30; exact q_draws (hb1.out _ HP.out)))
  go_wp2_with fail
  rw [rounds_succ]
  go_wp2_with fail
  go_ret
  exact ⟨rfl, _, rfl⟩
theorem plic_lines (d : Dev) (hd : d.Ok) (b : Nat) (w : World) (hp : PlicAt w b d) : Calls Try.prog 29 #[.pointer (some ⟨b, 0, none⟩)] w fun e w' => e = .returned (.int .u64 (d.lns : Nat)) ∧ ∃ n, w' = w.drewN n := by
  unfold Dev.lns
  by_cases t0 : d.th 0 < d.pr (d.best 0) <;> by_cases t1 : d.th 1 < d.pr (d.best 1)
  · rw [if_pos t0, if_pos t1]; exact plic_lines11 d hd b w hp t0 t1
  · rw [if_pos t0, if_neg t1]; exact plic_lines10 d hd b w hp t0 t1
  · rw [if_neg t0, if_pos t1]; exact plic_lines01 d hd b w hp t0 t1
  · rw [if_neg t0, if_neg t1]; exact plic_lines00 d hd b w hp t0 t1
set_option maxRecDepth 100000 in
set_option maxHeartbeats 2000000 in
theorem plic_lines_nil (w : World) : Calls Try.prog 29 #[.pointer none] w fun e w' => e = .returned (.int .u64 0) ∧ w = w' := by
  go_enter Try.func29, Try.ntmps29
  go_wp2
  go_ret
  exact ⟨rfl, rfl⟩
set_option maxRecDepth 100000 in
set_option maxHeartbeats 2000000 in
theorem plic_tick_nil (l : Int) (w : World) : Calls Try.prog 27 #[.pointer none, .int .u32 l] w fun e w' => e = .returned (.tuple #[]) ∧ w = w' := by
  go_enter Try.func27, Try.ntmps27
  go_wp2
  go_end0
  exact ⟨rfl, rfl⟩
end Go.Proofs.Ytebdbbpefmgooaa
