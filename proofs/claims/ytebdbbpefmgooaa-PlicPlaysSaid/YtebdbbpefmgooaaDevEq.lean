/- Two states of the devices held against each other, walked. No condition. -/
import Derived.Test.YtebdbbpefmgooaaPlic11
import Derived.Test.YtebdbbpefmgooaaRom5
import Derived.Test.YtebdbbpefmgooaaEqArr
import Derived.StillTailTactics
import Derived.BigRegion
import Derived.Deep.RegionWith
import Derived.Deep.QuietTactic
import Derived.BigQuiet
import Derived.Deep.LoopGhost
import Derived.Deep.DeepCutAuto
import Derived.Deep.DeepFit
import Derived.Deep.DeepMust
set_option linter.unusedVariables false
set_option linter.unusedSimpArgs false
namespace Go.Proofs.Ytebdbbpefmgooaa
open Go.RowKit
attribute [local go_sem ↓] ld_dev ld_ref ld_plc st_dev st_ref st_plc
attribute [local go_sem] rl_dev rl_ref rl_plc rs_dev rs_ref rs_plc Dev.size_cells Dev.st_ok Dev.c0 Dev.c1 Dev.c2 Dev.c3 Dev.c4 Dev.c5 Dev.c6 Dev.c7 Dev.c8 Dev.c9 Dev.c10 Dev.c11 Dev.c12 Dev.c13 Dev.c14 Dev.c15 Dev.c16 Dev.c17 Dev.c18 Dev.c19 Dev.c20 Dev.c21 Dev.set_pend Dev.set_cla row_alloc row_drew row_drewN is_alloc is_drew is_drewN row_setCell is_setCell setRow_alloc_new objRow_cells objIs_cells row_setRow_same row_setRow_other is_setRow_same is_setRow_other
theorem sz45 (w : World) : (sizeOf 45).run Try.prog w = .ok 1 w := by kernel_rfl
theorem eq8 (f : Nat → Nat) (w : World) : (Op.equalIn 10000 56 (.agg #[.int .u32 (f 0), .int .u32 (f 1), .int .u32 (f 2), .int .u32 (f 3), .int .u32 (f 4), .int .u32 (f 5), .int .u32 (f 6), .int .u32 (f 7)])
    (.agg #[.int .u32 (f 0), .int .u32 (f 1), .int .u32 (f 2), .int .u32 (f 3), .int .u32 (f 4), .int .u32 (f 5), .int .u32 (f 6), .int .u32 (f 7)])).run Try.prog w = .ok true w := by
  have h := run_equalIn_ints (P := Try.prog) w 9998 56 45 .u32 8 Try.underlying56 Try.underlying45 sz45 [(f 0 : Int), f 1, f 2, f 3, f 4, f 5, f 6, f 7] [(f 0 : Int), f 1, f 2, f 3, f 4, f 5, f 6, f 7] rfl rfl
  rw [BEq.rfl] at h
  exact h
theorem eq2 (f : Nat → Nat) (w : World) : (Op.equalIn 10000 57 (.agg #[.int .u32 (f 0), .int .u32 (f 1)]) (.agg #[.int .u32 (f 0), .int .u32 (f 1)])).run Try.prog w = .ok true w := by
  have h := run_equalIn_ints (P := Try.prog) w 9998 57 45 .u32 2 Try.underlying57 Try.underlying45 sz45 [(f 0 : Int), f 1] [(f 0 : Int), f 1] rfl rfl
  rw [BEq.rfl] at h
  exact h
set_option maxRecDepth 100000 in
set_option maxHeartbeats 4000000 in
theorem same_devices (d : Dev) (w : World) (lr lt : List Int) (hr : IsB w d.rxa d.rxl lr) (ht : IsB w d.txa d.txl lt) :
    Calls Try.prog 33 #[.agg d.cells, .agg d.cells] w fun e w' => e = .returned (.bool true) ∧ Below w.heap.size w w' := by
  have hw : ∀ a b, Below w.heap.size w ((w.alloc a).alloc b) := fun a b => base2 w a b
  have hr' : Hid (∀ a b, IsB ((w.alloc a).alloc b) d.rxa d.rxl lr) := fun a b => isB_below hr (hw a b)
  have ht' : Hid (∀ a b, IsB ((w.alloc a).alloc b) d.txa d.txl lt) := fun a b => isB_below ht (hw a b)
  clear hr ht hw
  have e8 := eq8 d.pr
  have e2 := eq2 d.en
  have e3 := eq2 d.th
  go_enter Try.func33, Try.ntmps33
  go_wp2_with fail
  refine (same_bytes _ _ _ _ _ _ lr lr _ (hr'.out _ _) (hr'.out _ _)).mono ?_
  rintro e w5 ⟨rfl, rfl⟩
  rw [show eqB lr lr = true by simp [eqB]]
  go_wp2_with fail
  refine (same_bytes _ _ _ _ _ _ lt lt _ (ht'.out _ _) (ht'.out _ _)).mono ?_
  rintro e w5 ⟨rfl, rfl⟩
  rw [show eqB lt lt = true by simp [eqB]]
  go_wp2
  go_ret
  exact ⟨rfl, base2 w _ _⟩
end Go.Proofs.Ytebdbbpefmgooaa
