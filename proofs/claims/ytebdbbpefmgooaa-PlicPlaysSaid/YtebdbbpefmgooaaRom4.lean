/- Contracts of the functions of the ROM and of its law: what each call answers and leaves. No condition. -/
import Derived.Test.YtebdbbpefmgooaaRom3
import Derived.Deep.RegionWith
import Derived.Deep.LoopGhost
import Derived.Deep.DeepCutAuto
import Derived.Deep.DeepFit
import Derived.Deep.DeepMust
set_option linter.unusedVariables false
set_option linter.unusedSimpArgs false
namespace Go.Proofs.Ytebdbbpefmgooaa
open Go.RowKit
noncomputable def csr0 : Array Value := (Try.prog.built 33 []).getD #[]
noncomputable def hart0 : Array Value := (Try.prog.built 35 [(0, .int .u64 4096), (1, .int .i64 3)]).getD #[]
theorem csr_built : Try.prog.built 33 [] = some csr0 := by kernel_rfl
theorem hart_built : Try.prog.built 35 [(0, .int .u64 4096), (1, .int .i64 3)] = some hart0 := by kernel_rfl
theorem hart_built2 : Try.prog.built 35 [(0, .int .u64 4096), (1, .int .i64 3), (3, .agg csr0)] = some hart0 := by kernel_rfl
theorem hart_neq (w : World) : (binOp .neq 35 (.agg hart0) (.agg hart0)).run Try.prog w = .ok (.bool false) w := by kernel_rfl
theorem csr_zero (w : World) : (zeroValue 33).run Try.prog w = .ok (.agg csr0) w := by kernel_rfl
noncomputable def zhart : Array Value := (Try.prog.built 35 []).getD #[]
theorem hart_zero (w : World) : (zeroValue 35).run Try.prog w = .ok (.agg zhart) w := by kernel_rfl

theorem csr_info : (Try.prog.info? 33).map (·.size) = some csr0.size := by kernel_rfl
theorem csr_one : csr0.all (·.oneCell') = true := by kernel_rfl
theorem hart_info : (Try.prog.info? 35).map (·.size) = some hart0.size := by kernel_rfl
theorem hart_one : hart0.all (·.oneCell') = true := by kernel_rfl
theorem hart_size : zhart.size = hart0.size := by kernel_rfl
set_option maxRecDepth 100000 in
set_option maxHeartbeats 1000000 in
theorem csr_reset (w : World) : Calls Try.prog 52 #[] w fun e w' => e = .returned (.agg csr0) ∧ Below w.heap.size w w' := by
  have hz := csr_zero
  go_enter Try.func52, Try.ntmps52
  go_wp2_with (refine wpList_store_row rfl 33 _ _ rfl w.heap.size csr0 rfl rfl 33 csr0 (blk_alloc _ _) csr_info rfl csr_one ?_)
  exact bodyPost_ret (results_cell_row rfl _ _ w.heap.size _ csr0 _ _ rfl (setRow_heap _ _ _ _ _ _ (blk_alloc _ _)) Try.underlying33 rfl csr_info) rfl ⟨rfl, below_setRow ((Below.refl _ _).alloc (Nat.le_refl _) _) (Nat.le_refl _) _⟩

set_option maxRecDepth 100000 in
set_option maxHeartbeats 1000000 in
theorem rom_reset (w : World) : Calls Try.prog 20 #[] w fun e w' => e = .returned (.agg hart0) ∧ Below w.heap.size w w' := by
  have hz := hart_zero
  go_enter Try.func20, Try.ntmps20
  go_wp2_with fail
  refine (csr_reset _).mono ?_
  rintro e w1 ⟨rfl, hb⟩
  have hh : w1.heap[w.heap.size]? = some (.cells zhart 35 (0, 0)) := (hb.block _ (by simp)).trans (blk_alloc _ _)
  have hb1 : Below w.heap.size w w1 := below_then ((Below.refl _ _).alloc (Nat.le_refl _) _) hb (by simp)
  have HH := Lib.hid hh; have HB := Lib.hid hb1; clear hb hh hb1
  go_wp2_with (first | (refine wpList_build rfl 35 _ rfl (Option.isSome_iff_exists.2 ⟨_, hart_built2⟩) ?_) | (refine wpList_store_row rfl 35 _ _ rfl w.heap.size hart0 rfl (congrArg Value.agg (congrArg (Option.getD · #[]) hart_built2)) 35 zhart HH.out hart_info hart_size hart_one ?_))
  exact bodyPost_ret (results_cell_row rfl _ _ w.heap.size _ hart0 _ _ rfl (setRow_heap _ _ _ _ _ _ HH.out) Try.underlying35 rfl hart_info) rfl ⟨rfl, below_setRow HB.out (Nat.le_refl _) _⟩

set_option maxRecDepth 100000 in
set_option maxHeartbeats 1000000 in
theorem ref_reset (w : World) : Calls Try.prog 21 #[] w fun e w' => e = .returned (.agg hart0) ∧ Below w.heap.size w w' := by
  have hz := hart_zero
  go_enter Try.func21, Try.ntmps21
  go_wp2_with (first | (refine wpList_build rfl 35 _ rfl (Option.isSome_iff_exists.2 ⟨_, hart_built⟩) ?_) | (refine wpList_store_row rfl 35 _ _ rfl w.heap.size hart0 rfl (congrArg Value.agg (congrArg (Option.getD · #[]) hart_built)) 35 zhart (blk_alloc _ _) hart_info hart_size hart_one ?_))
  exact bodyPost_ret (results_cell_row rfl _ _ w.heap.size _ hart0 _ _ rfl (setRow_heap _ _ _ _ _ _ (blk_alloc _ _)) Try.underlying35 rfl hart_info) rfl ⟨rfl, below_setRow ((Below.refl _ _).alloc (Nat.le_refl _) _) (Nat.le_refl _) _⟩
end Go.Proofs.Ytebdbbpefmgooaa
