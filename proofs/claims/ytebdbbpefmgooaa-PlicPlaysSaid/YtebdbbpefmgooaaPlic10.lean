/- The reference PLIC: a register written, walked. No condition. -/
import Derived.Test.YtebdbbpefmgooaaPlic9
import Derived.StillTailTactics
import Derived.BigRegion
import Derived.Deep.RegionWith
import Derived.Deep.QuietTactic
import Derived.BigQuiet
import Derived.Deep.LoopGhost
import Derived.Deep.DeepCutAuto
import Derived.Deep.DeepFit
import Derived.Deep.DeepMust
set_option linter.unusedVariables false
set_option linter.unusedSimpArgs false
namespace Go.Proofs.Ytebdbbpefmgooaa
open Go.RowKit
attribute [local go_sem ↓] ld_dev ld_ref ld_plc st_dev st_ref st_plc
attribute [local go_sem] rl_dev rl_ref rl_plc rs_dev rs_ref rs_plc Dev.size_cells Dev.st_ok Dev.c0 Dev.c1 Dev.c2 Dev.c3 Dev.c4 Dev.c5 Dev.c6 Dev.c7 Dev.c8 Dev.c9 Dev.c10 Dev.c11 Dev.c12 Dev.c13 Dev.c14 Dev.c15 Dev.c16 Dev.c17 Dev.c18 Dev.c19 Dev.c20 Dev.c21 Dev.set_pend Dev.set_cla row_alloc row_drew row_drewN is_alloc is_drew is_drewN row_setCell is_setCell setRow_alloc_new objRow_cells objIs_cells row_setRow_same row_setRow_other is_setRow_same is_setRow_other
/-- an error, the PLIC d as a value; nothing that was there has turned -/
def RefWrote (w : World) (d : Dev) (k : Int) (e : Ending) (w' : World) : Prop := e = .returned (.tuple #[.agg d.cells, .int .i64 k]) ∧ Below w.heap.size w w'
set_option maxRecDepth 100000 in
set_option maxHeartbeats 2000000 in
theorem refp_write1 (d : Dev) (off : Int) (h0 : 0 ≤ off) (v : Nat) (hv : v < 2 ^ 64) (k : Nat) (hk : k < 8) (hpl : placeOf off = (1, (k : Int))) (w : World) :
    Calls Try.prog 55 #[.agg d.cells, .int .u64 off, .int .i64 4, .int .u64 v] w (RefWrote w { d with pr := upd d.pr k (and7 (lo32 v)) } 0) := by
  have hw : Hid (∀ w, Calls Try.prog 73 #[.int .u64 off] w (PlaceIs w (1, k))) := fun w => hpl ▸ place_any off h0 w
  have c2 : d.cells[3 + k]? = some (.int .u32 (d.pr k)) := d.cell_pr _ hk
  have hki : (k : Int) < 8 := by omega
  have e0 := lo32_i v hv
  have e1 := and7_i (lo32 v) (lo32_lt v)
  have e2 := mod32_i (and7 (lo32 v)) (Nat.lt_of_lt_of_le (and7_lt _) (by omega))
  have hset := Dev.set_pr d (and7 (lo32 v)) k hk
  clear hpl hv
  go_enter Try.func55, Try.ntmps55
  go_wp2_with fail
  refine (hw.out _).mono ?_
  rintro e w1 ⟨rfl, rfl⟩
  go_wp2
  exact bodyPost_ret (res_ct _ _ _ (w.heap.size + 1) ({ d with pr := upd d.pr k (and7 (lo32 v)) } : Dev).cells rfl (lvs_ref _ _ _ (by simp [go_sem]) rfl) rfl) rfl ⟨rfl, below_setRow (base2 w _ _) (by omega) _⟩
set_option maxRecDepth 100000 in
set_option maxHeartbeats 2000000 in
theorem refp_write3 (d : Dev) (off : Int) (h0 : 0 ≤ off) (v : Nat) (hv : v < 2 ^ 64) (k : Nat) (hk : k < 2) (hpl : placeOf off = (3, (k : Int))) (w : World) :
    Calls Try.prog 55 #[.agg d.cells, .int .u64 off, .int .i64 4, .int .u64 v] w (RefWrote w { d with en := upd d.en k (and254 (lo32 v)) } 0) := by
  have hw : Hid (∀ w, Calls Try.prog 73 #[.int .u64 off] w (PlaceIs w (3, k))) := fun w => hpl ▸ place_any off h0 w
  have c2 : d.cells[13 + k]? = some (.int .u32 (d.en k)) := d.cell_en _ hk
  have hki : (k : Int) < 2 := by omega
  have e0 := lo32_i v hv
  have e1 := and254_i (lo32 v) (lo32_lt v)
  have e2 := mod32_i (and254 (lo32 v)) (Nat.lt_of_lt_of_le (and254_lt _) (by omega))
  have hset := Dev.set_en d (and254 (lo32 v)) k hk
  clear hpl hv
  go_enter Try.func55, Try.ntmps55
  go_wp2_with fail
  refine (hw.out _).mono ?_
  rintro e w1 ⟨rfl, rfl⟩
  go_wp2
  exact bodyPost_ret (res_ct _ _ _ (w.heap.size + 1) ({ d with en := upd d.en k (and254 (lo32 v)) } : Dev).cells rfl (lvs_ref _ _ _ (by simp [go_sem]) rfl) rfl) rfl ⟨rfl, below_setRow (base2 w _ _) (by omega) _⟩
set_option maxRecDepth 100000 in
set_option maxHeartbeats 2000000 in
theorem refp_write4 (d : Dev) (off : Int) (h0 : 0 ≤ off) (v : Nat) (hv : v < 2 ^ 64) (k : Nat) (hk : k < 2) (hpl : placeOf off = (4, (k : Int))) (w : World) :
    Calls Try.prog 55 #[.agg d.cells, .int .u64 off, .int .i64 4, .int .u64 v] w (RefWrote w { d with th := upd d.th k (and7 (lo32 v)) } 0) := by
  have hw : Hid (∀ w, Calls Try.prog 73 #[.int .u64 off] w (PlaceIs w (4, k))) := fun w => hpl ▸ place_any off h0 w
  have c2 : d.cells[15 + k]? = some (.int .u32 (d.th k)) := d.cell_th _ hk
  have hki : (k : Int) < 2 := by omega
  have e0 := lo32_i v hv
  have e1 := and7_i (lo32 v) (lo32_lt v)
  have e2 := mod32_i (and7 (lo32 v)) (Nat.lt_of_lt_of_le (and7_lt _) (by omega))
  have hset := Dev.set_th d (and7 (lo32 v)) k hk
  clear hpl hv
  go_enter Try.func55, Try.ntmps55
  go_wp2_with fail
  refine (hw.out _).mono ?_
  rintro e w1 ⟨rfl, rfl⟩
  go_wp2
  exact bodyPost_ret (res_ct _ _ _ (w.heap.size + 1) ({ d with th := upd d.th k (and7 (lo32 v)) } : Dev).cells rfl (lvs_ref _ _ _ (by simp [go_sem]) rfl) rfl) rfl ⟨rfl, below_setRow (base2 w _ _) (by omega) _⟩
set_option maxRecDepth 100000 in
set_option maxHeartbeats 2000000 in
theorem refp_write0 (d : Dev) (off size v : Int) (h0 : 0 ≤ off) (hpl : placeOf off = (0, 0)) (w : World) :
    Calls Try.prog 55 #[.agg d.cells, .int .u64 off, .int .i64 size, .int .u64 v] w (RefWrote w d 6) := by
  have hw : Hid (∀ w, Calls Try.prog 73 #[.int .u64 off] w (PlaceIs w (0, 0))) := fun w => hpl ▸ place_any off h0 w
  clear hpl
  go_enter Try.func55, Try.ntmps55
  go_wp2_with fail
  refine (hw.out _).mono ?_
  rintro e w1 ⟨rfl, rfl⟩
  go_wp2
  exact bodyPost_ret (res_ct _ _ _ (w.heap.size + 1) d.cells rfl (lvs_ref _ _ _ (by simp [go_sem]) rfl) rfl) rfl ⟨rfl, below_setRow (base2 w _ _) (by omega) _⟩
set_option maxRecDepth 100000 in
set_option maxHeartbeats 2000000 in
theorem refp_write2 (d : Dev) (off size v : Int) (h0 : 0 ≤ off) (hpl : placeOf off = (2, 0)) (w : World) :
    Calls Try.prog 55 #[.agg d.cells, .int .u64 off, .int .i64 size, .int .u64 v] w (RefWrote w d 6) := by
  have hw : Hid (∀ w, Calls Try.prog 73 #[.int .u64 off] w (PlaceIs w (2, 0))) := fun w => hpl ▸ place_any off h0 w
  clear hpl
  go_enter Try.func55, Try.ntmps55
  go_wp2_with fail
  refine (hw.out _).mono ?_
  rintro e w1 ⟨rfl, rfl⟩
  go_wp2
  exact bodyPost_ret (res_ct _ _ _ (w.heap.size + 1) d.cells rfl (lvs_ref _ _ _ (by simp [go_sem]) rfl) rfl) rfl ⟨rfl, below_setRow (base2 w _ _) (by omega) _⟩
set_option maxRecDepth 100000 in
set_option maxHeartbeats 2000000 in
theorem refp_write_size (d : Dev) (off size v : Int) (h0 : 0 ≤ off) (hk : ((placeOf off).1 == 0) = false) (hk2 : ((placeOf off).1 == 2) = false) (hs : (size != 4) = true) (w : World) :
    Calls Try.prog 55 #[.agg d.cells, .int .u64 off, .int .i64 size, .int .u64 v] w (RefWrote w d 6) := by
  have hw : Hid (∀ w, Calls Try.prog 73 #[.int .u64 off] w (PlaceIs w (placeOf off))) := fun w => place_any off h0 w
  generalize placeOf off = p at *
  go_enter Try.func55, Try.ntmps55
  go_wp2_with fail
  refine (hw.out _).mono ?_
  rintro e w1 ⟨rfl, rfl⟩
  go_wp2
  exact bodyPost_ret (res_ct _ _ _ (w.heap.size + 1) d.cells rfl (lvs_ref _ _ _ (by simp [go_sem]) rfl) rfl) rfl ⟨rfl, below_setRow (base2 w _ _) (by omega) _⟩
set_option maxRecDepth 100000 in
set_option maxHeartbeats 2000000 in
theorem refp_write5lo (d : Dev) (hd : d.Ok) (off : Int) (h0 : 0 ≤ off) (v : Nat) (hv : v < 2 ^ 64) (k : Nat) (hk : k < 2) (hpl : placeOf off = (5, (k : Int))) (hV1 : lo32 v < 1) (w : World) :
    Calls Try.prog 55 #[.agg d.cells, .int .u64 off, .int .i64 4, .int .u64 v] w (RefWrote w d 0) := by
  have hw : Hid (∀ w, Calls Try.prog 73 #[.int .u64 off] w (PlaceIs w (5, k))) := fun w => hpl ▸ place_any off h0 w
  have c2 : d.cells[13 + k]? = some (.int .u32 (d.en k)) := d.cell_en _ hk
  have hki : (k : Int) < 2 := by omega
  have e0 := lo32_i v hv
  generalize hV : lo32 v = V at *
  have g1 : ¬ ((1 : Int) ≤ V) := by omega
  have g1' : decide ((1 : Int) ≤ V) = false := by simpa using g1
  clear hV hV1 hd
  clear hpl hv
  go_enter Try.func55, Try.ntmps55
  go_wp2_with fail
  refine (hw.out _).mono ?_
  rintro e w1 ⟨rfl, rfl⟩
  go_wp2
  go_quiet (fail)
  go_wp2
  exact bodyPost_ret (res_ct _ _ _ (w.heap.size + 1) d.cells rfl (lvs_ref _ _ _ (by simp [go_sem]) rfl) rfl) rfl ⟨rfl, below_setRow (below_drewN (base2 w _ _) _) (by omega) _⟩
set_option maxRecDepth 100000 in
set_option maxHeartbeats 2000000 in
theorem refp_write5hi (d : Dev) (hd : d.Ok) (off : Int) (h0 : 0 ≤ off) (v : Nat) (hv : v < 2 ^ 64) (k : Nat) (hk : k < 2) (hpl : placeOf off = (5, (k : Int))) (hV1 : 7 < lo32 v) (w : World) :
    Calls Try.prog 55 #[.agg d.cells, .int .u64 off, .int .i64 4, .int .u64 v] w (RefWrote w d 0) := by
  have hw : Hid (∀ w, Calls Try.prog 73 #[.int .u64 off] w (PlaceIs w (5, k))) := fun w => hpl ▸ place_any off h0 w
  have c2 : d.cells[13 + k]? = some (.int .u32 (d.en k)) := d.cell_en _ hk
  have hki : (k : Int) < 2 := by omega
  have e0 := lo32_i v hv
  generalize hV : lo32 v = V at *
  have g0 : (1 : Int) ≤ V := by omega
  have g1 : ¬ ((V : Int) ≤ 7) := by omega
  have g1' : decide ((V : Int) ≤ 7) = false := by simpa using g1
  clear hV hV1 hd
  clear hpl hv
  go_enter Try.func55, Try.ntmps55
  go_wp2_with fail
  refine (hw.out _).mono ?_
  rintro e w1 ⟨rfl, rfl⟩
  go_wp2
  go_quiet (fail)
  go_wp2
  exact bodyPost_ret (res_ct _ _ _ (w.heap.size + 1) d.cells rfl (lvs_ref _ _ _ (by simp [go_sem]) rfl) rfl) rfl ⟨rfl, below_setRow (below_drewN (base2 w _ _) _) (by omega) _⟩
set_option maxRecDepth 100000 in
set_option maxHeartbeats 2000000 in
theorem refp_write5n (d : Dev) (hd : d.Ok) (off : Int) (h0 : 0 ≤ off) (v : Nat) (hv : v < 2 ^ 64) (k : Nat) (hk : k < 2) (hpl : placeOf off = (5, (k : Int))) (h1 : 1 ≤ lo32 v) (h7 : lo32 v ≤ 7) (ht : (d.cla &&& d.en k).testBit (lo32 v) = false) (w : World) :
    Calls Try.prog 55 #[.agg d.cells, .int .u64 off, .int .i64 4, .int .u64 v] w (RefWrote w d 0) := by
  have hw : Hid (∀ w, Calls Try.prog 73 #[.int .u64 off] w (PlaceIs w (5, k))) := fun w => hpl ▸ place_any off h0 w
  have c2 : d.cells[13 + k]? = some (.int .u32 (d.en k)) := d.cell_en _ hk
  have hki : (k : Int) < 2 := by omega
  have e0 := lo32_i v hv
  generalize hV : lo32 v = V at *
  have g0 : (1 : Int) ≤ V := by omega
  have g1 : (V : Int) ≤ 7 := by omega
  have hx := and32 d.cla (d.en k) hd.cla (hd.en k hk)
  have hxl : d.cla &&& d.en k < 2 ^ 32 := and_lt32 _ hd.cla
  have hbit : Hid (∀ W, Calls Try.prog 58 #[.int .u32 ((d.cla &&& d.en k : Nat) : Int), .int .i64 (V : Int)] W fun e w' => e = .returned (.bool false) ∧ w' = W) := fun W => ref_bit' _ V _ rfl hxl h7 false ht W
  clear hV h1 h7 hd ht
  clear hpl hv
  go_enter Try.func55, Try.ntmps55
  go_wp2_with fail
  refine (hw.out _).mono ?_
  rintro e w1 ⟨rfl, rfl⟩
  go_wp2
  go_quiet ((go_at_call 58; exact Calls.quiet_of_same (hbit.out _)))
  go_wp2
  exact bodyPost_ret (res_ct _ _ _ (w.heap.size + 1) d.cells rfl (lvs_ref _ _ _ (by simp [go_sem]) rfl) rfl) rfl ⟨rfl, below_setRow (below_drewN (base2 w _ _) _) (by omega) _⟩
set_option maxRecDepth 100000 in
set_option maxHeartbeats 2000000 in
theorem refp_write5y (d : Dev) (hd : d.Ok) (off : Int) (h0 : 0 ≤ off) (v : Nat) (hv : v < 2 ^ 64) (k : Nat) (hk : k < 2) (hpl : placeOf off = (5, (k : Int))) (h1 : 1 ≤ lo32 v) (h7 : lo32 v ≤ 7) (ht : (d.cla &&& d.en k).testBit (lo32 v) = true) (w : World) :
    Calls Try.prog 55 #[.agg d.cells, .int .u64 off, .int .i64 4, .int .u64 v] w (RefWrote w { d with cla := andNot32 d.cla (pow2 (lo32 v)) } 0) := by
  have hw : Hid (∀ w, Calls Try.prog 73 #[.int .u64 off] w (PlaceIs w (5, k))) := fun w => hpl ▸ place_any off h0 w
  have c2 : d.cells[13 + k]? = some (.int .u32 (d.en k)) := d.cell_en _ hk
  have hki : (k : Int) < 2 := by omega
  have e0 := lo32_i v hv
  generalize hV : lo32 v = V at *
  have g0 : (1 : Int) ≤ V := by omega
  have g1 : (V : Int) ≤ 7 := by omega
  have hx := and32 d.cla (d.en k) hd.cla (hd.en k hk)
  have hxl : d.cla &&& d.en k < 2 ^ 32 := and_lt32 _ hd.cla
  have hbit : Hid (∀ W, Calls Try.prog 58 #[.int .u32 ((d.cla &&& d.en k : Nat) : Int), .int .i64 (V : Int)] W fun e w' => e = .returned (.bool true) ∧ w' = W) := fun W => ref_bit' _ V _ rfl hxl h7 true ht W
  have e3 := shl1_32 h7
  have e4 := andNot32_i d.cla (pow2 V) hd.cla (pow2_lt h7)
  clear h1 h7 hd ht
  clear hpl hv
  go_enter Try.func55, Try.ntmps55
  go_wp2_with fail
  refine (hw.out _).mono ?_
  rintro e w1 ⟨rfl, rfl⟩
  go_wp2
  go_quiet ((go_at_call 58; exact Calls.quiet_of_same (hbit.out _)))
  go_wp2
  subst hV
  exact bodyPost_ret (res_ct _ _ _ (w.heap.size + 1) ({ d with cla := andNot32 d.cla (pow2 (lo32 v)) } : Dev).cells rfl (lvs_ref _ _ _ (by simp [go_sem]) rfl) rfl) rfl ⟨rfl, below_setRow (by repeat' (first | exact base2 w _ _ | (with_reducible refine Below.setCell ?_ (by simp) _) | (with_reducible refine below_drewN ?_ _))) (by omega) _⟩
end Go.Proofs.Ytebdbbpefmgooaa
