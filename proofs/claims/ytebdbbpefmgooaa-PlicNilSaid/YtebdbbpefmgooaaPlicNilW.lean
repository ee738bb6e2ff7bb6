/- The law PlicNil, walked. No condition. -/
import Derived.Test.YtebdbbpefmgooaaPlicHere
import Derived.StillTailTactics
import Derived.BigRegion
import Derived.Deep.RegionWith
import Derived.Deep.QuietTactic
import Derived.BigQuiet
import Derived.Deep.LoopGhost
import Derived.Deep.DeepCutAuto
import Derived.Deep.DeepFit
import Derived.Deep.DeepMust
set_option linter.unusedVariables false
set_option linter.unusedSimpArgs false
namespace Go.Proofs.Ytebdbbpefmgooaa
open Go.RowKit
attribute [local go_sem ↓] ld_dev ld_ref ld_plc st_dev st_ref st_plc
attribute [local go_sem] rl_dev rl_ref rl_plc rs_dev rs_ref rs_plc Dev.size_cells Dev.st_ok Dev.c0 Dev.c1 Dev.c2 Dev.c3 Dev.c4 Dev.c5 Dev.c6 Dev.c7 Dev.c8 Dev.c9 Dev.c10 Dev.c11 Dev.c12 Dev.c13 Dev.c14 Dev.c15 Dev.c16 Dev.c17 Dev.c18 Dev.c19 Dev.c20 Dev.c21 Dev.set_pend Dev.set_cla row_alloc row_drew row_drewN is_alloc is_drew is_drewN row_setCell is_setCell setRow_alloc_new objRow_cells objIs_cells row_setRow_same row_setRow_other is_setRow_same is_setRow_other
set_option maxRecDepth 100000 in
set_option maxHeartbeats 2000000 in
theorem plic_nil (off size v ctx : Int) (w : World) : Calls Try.prog 8 #[.int .u64 off, .int .i64 size, .int .u64 v, .int .i64 ctx] w fun e w' => e = .returned (.bool true) ∧ Below w.heap.size w w' := by
  go_enter Try.func8, Try.ntmps8
  go_wp2_with fail
  refine (plic_tick_nil _ _).mono ?_
  rintro e w1 ⟨rfl, rfl⟩
  go_wp2_with fail
  refine (plic_read_nil _ _ _).mono ?_
  rintro e w1 ⟨rfl, rfl⟩
  go_wp2_with fail
  refine (plic_awake _).mono ?_
  rintro e w1 ⟨rfl, hb⟩
  have HB := Lib.hid hb; clear hb
  go_wp2_with fail
  refine (plic_write_nil _ _ _ _).mono ?_
  rintro e w2 ⟨rfl, rfl⟩
  go_wp2_with fail
  refine (plic_lines_nil _).mono ?_
  rintro e w2 ⟨rfl, rfl⟩
  go_wp2_with fail
  refine (plic_best_nil _ _).mono ?_
  rintro e w2 ⟨rfl, rfl⟩
  go_wp2_with fail
  refine (plic_state_nil _).mono ?_
  rintro e w2 ⟨rfl, hb2⟩
  have HB2 : Hid (Below w.heap.size w w2) := below_then HB.out hb2 HB.out.size
  clear hb2
  go_wp2_with fail
  refine (same_devices dev0 _ [] [] ⟨rfl, by simp, .inl ⟨rfl, rfl⟩⟩ ⟨rfl, by simp, .inl ⟨rfl, rfl⟩⟩).mono ?_
  rintro e w3 ⟨rfl, hb3⟩
  have HB3 : Hid (Below w.heap.size w w3) := below_then HB2.out hb3 HB2.out.size
  clear hb3
  go_wp2
  go_ret
  exact ⟨rfl, HB3.out⟩
theorem plic_nil_walk (a0 : Int) (w0 : (Lit.int .u64 a0).wf = true) (a1 : Int) (w1 : (Lit.int .i64 a1).wf = true) (a2 : Int) (w2 : (Lit.int .u64 a2).wf = true) (a3 : Int) (w3 : (Lit.int .i64 a3).wf = true) (w : World) :
    Calls Try.prog 8 #[.int .u64 a0, .int .i64 a1, .int .u64 a2, .int .i64 a3] w fun e w' => e = .returned (.bool true) ∧ Below w.heap.size w w' := plic_nil a0 a1 a2 a3 w
end Go.Proofs.Ytebdbbpefmgooaa
