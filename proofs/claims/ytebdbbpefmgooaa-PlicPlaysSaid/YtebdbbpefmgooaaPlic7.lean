/- The reference PLIC: its best source, walked. No condition. -/
import Derived.Test.YtebdbbpefmgooaaPlic6
import Derived.Test.YtebdbbpefmgooaaDevRules
import Derived.StillTailTactics
import Derived.BigRegion
import Derived.Deep.RegionWith
import Derived.Deep.QuietTactic
import Derived.BigQuiet
import Derived.Deep.LoopGhost
import Derived.Deep.DeepCutAuto
import Derived.Deep.DeepFit
import Derived.Deep.DeepMust
set_option linter.unusedVariables false
set_option linter.unusedSimpArgs false
namespace Go.Proofs.Ytebdbbpefmgooaa
open Go.RowKit
attribute [local go_sem ↓] ld_dev ld_ref ld_plc st_dev st_ref st_plc
attribute [local go_sem] rl_dev rl_ref rl_plc rs_dev rs_ref rs_plc Dev.size_cells Dev.st_ok Dev.c0 Dev.c1 Dev.c2 Dev.c3 Dev.c4 Dev.c5 Dev.c6 Dev.c7 Dev.c8 Dev.c9 Dev.c10 Dev.c11 Dev.c12 Dev.c13 Dev.c14 Dev.c15 Dev.c16 Dev.c17 Dev.c18 Dev.c19 Dev.c20 Dev.c21 Dev.set_pend Dev.set_cla row_alloc row_drew row_drewN is_alloc is_drew is_drewN row_setCell is_setCell setRow_alloc_new objRow_cells objIs_cells row_setRow_same row_setRow_other is_setRow_same is_setRow_other
set_option maxRecDepth 100000 in
set_option maxHeartbeats 1000000 in
theorem ref_bit (v k : Nat) (hv : v < 2 ^ 32) (hk : k ≤ 7) (w : World) :
    Calls Try.prog 58 #[.int .u32 v, .int .i64 k] w fun e w' => e = .returned (.bool (v.testBit k)) ∧ w = w' := by
  have h1 : (k : Int) ≤ 7 := by omega
  have hb := bit_eq1 v k hv
  clear hk hv
  go_enter Try.func58, Try.ntmps58
  go_wp2
  go_ret
  exact ⟨rfl, rfl⟩
theorem ref_bit' (v k : Nat) (s : Int) (hs : s = k) (hv : v < 2 ^ 32) (hk : k ≤ 7) (b : Bool) (hb : v.testBit k = b) (w : World) :
    Calls Try.prog 58 #[.int .u32 v, .int .i64 s] w fun e w' => e = .returned (.bool b) ∧ w' = w := by
  subst hs hb
  exact (ref_bit v k hv hk w).mono fun _ _ h => ⟨h.1, h.2.symm⟩
set_option maxRecDepth 100000 in
set_option maxHeartbeats 2000000 in
theorem ref_best0 (d : Dev) (hd : d.Ok) (w : World) :
    Calls Try.prog 32 #[.agg d.cells, .int .i64 0] w fun e w' => e = .returned (.int .i64 (d.best 0)) ∧ Below w.heap.size w w' := by
  have hx := and32 d.pend (d.en 0) hd.pend (hd.en 0 (by omega))
  have hxl : d.pend &&& d.en 0 < 2 ^ 32 := and_lt32 _ hd.pend
  clear hd
  go_enter Try.func32, Try.ntmps32
  go_wp2
  go_loopw [5, 6] (fun v i wr => ∃ k : Nat, k ≤ 7 ∧ i = .int .i64 (k + 1) ∧ v = .int .i64 (bestTo (d.pend &&& d.en 0) d.pr k) ∧ ∃ n, wr = (w.alloc (.cells d.cells 61)).drewN n) (fun _ i _ => 8 - (intOf i).toNat)
  case atStart => exact ⟨0, by omega, rfl, rfl, 0, rfl⟩
  case round =>
    obtain ⟨k, hk, rfl, rfl, n, rfl⟩ := hrel
    by_cases hlt : k < 7
    · have hle := bestTo_le (d.pend &&& d.en 0) d.pr k
      generalize hB : bestTo (d.pend &&& d.en 0) d.pr k = B at *
      have HB := Lib.hid hB; clear hB
      have c2 : d.cells[3 + (k + 1)]? = some (.int .u32 (d.pr (k + 1))) := d.cell_pr _ (by omega)
      have c3 : d.cells[3 + B]? = some (.int .u32 (d.pr B)) := d.cell_pr _ (by omega)
      have hstep : bestTo (d.pend &&& d.en 0) d.pr (k + 1) = if (d.pend &&& d.en 0).testBit (k + 1) ∧ d.pr B < d.pr (k + 1) then k + 1 else B := by rw [bestTo, HB.out]
      have hstep := Lib.hid hstep
      by_cases ht : (d.pend &&& d.en 0).testBit (k + 1) = true
      · by_cases hpr : d.pr B < d.pr (k + 1)
        · have H2 : Hid (bestTo (d.pend &&& d.en 0) d.pr (k + 1) = k + 1) := by show _ = _; rw [hstep.out, if_pos ⟨ht, hpr⟩]
          have hbit : Hid (∀ W, Calls Try.prog 58 #[.int .u32 ((d.pend &&& d.en 0 : Nat) : Int), .int .i64 ((k : Int) + 1)] W fun e w' => e = .returned (.bool true) ∧ w' = W) := fun W => ref_bit' _ (k + 1) _ (by omega) hxl (by omega) true ht W
          clear hstep
          go_wp2
          go_quiet ((go_at_call 58; exact q_same (hbit.out _)))
          go_wp2
          go_roundw
          case rel => exact ⟨k + 1, by omega, by go_num, by rw [H2.out]; go_num, _, rfl⟩
          case measure => simp [intOf]; omega
        · have H2 : Hid (bestTo (d.pend &&& d.en 0) d.pr (k + 1) = B) := by show _ = _; rw [hstep.out, if_neg (fun h => hpr h.2)]
          have hbit : Hid (∀ W, Calls Try.prog 58 #[.int .u32 ((d.pend &&& d.en 0 : Nat) : Int), .int .i64 ((k : Int) + 1)] W fun e w' => e = .returned (.bool true) ∧ w' = W) := fun W => ref_bit' _ (k + 1) _ (by omega) hxl (by omega) true ht W
          clear hstep
          go_wp2
          go_quiet ((go_at_call 58; exact q_same (hbit.out _)))
          go_wp2
          go_roundw
          case rel => exact ⟨k + 1, by omega, by go_num, by rw [H2.out], _, rfl⟩
          case measure => simp [intOf]; omega
      · have ht : (d.pend &&& d.en 0).testBit (k + 1) = false := by simpa using ht
        · have H2 : Hid (bestTo (d.pend &&& d.en 0) d.pr (k + 1) = B) := by show _ = _; rw [hstep.out, if_neg (by simp [ht])]
          have hbit : Hid (∀ W, Calls Try.prog 58 #[.int .u32 ((d.pend &&& d.en 0 : Nat) : Int), .int .i64 ((k : Int) + 1)] W fun e w' => e = .returned (.bool false) ∧ w' = W) := fun W => ref_bit' _ (k + 1) _ (by omega) hxl (by omega) false ht W
          clear hstep
          go_wp2
          go_quiet ((go_at_call 58; exact q_same (hbit.out _)))
          go_wp2
          go_roundw
          case rel => exact ⟨k + 1, by omega, by go_num, by rw [H2.out], _, rfl⟩
          case measure => simp [intOf]; omega
    · obtain rfl : k = 7 := by omega
      have H2 : Hid (bestTo (d.pend &&& d.en 0) d.pr 7 = d.best 0) := rfl
      go_wp2
      go_ret
      exact ⟨by rw [← H2.out]; rfl, below_drewN ((Below.refl _ _).alloc (Nat.le_refl _) _) _⟩
set_option maxRecDepth 100000 in
set_option maxHeartbeats 2000000 in
theorem ref_best1 (d : Dev) (hd : d.Ok) (w : World) :
    Calls Try.prog 32 #[.agg d.cells, .int .i64 1] w fun e w' => e = .returned (.int .i64 (d.best 1)) ∧ Below w.heap.size w w' := by
  have hx := and32 d.pend (d.en 1) hd.pend (hd.en 1 (by omega))
  have hxl : d.pend &&& d.en 1 < 2 ^ 32 := and_lt32 _ hd.pend
  clear hd
  go_enter Try.func32, Try.ntmps32
  go_wp2
  go_loopw [5, 6] (fun v i wr => ∃ k : Nat, k ≤ 7 ∧ i = .int .i64 (k + 1) ∧ v = .int .i64 (bestTo (d.pend &&& d.en 1) d.pr k) ∧ ∃ n, wr = (w.alloc (.cells d.cells 61)).drewN n) (fun _ i _ => 8 - (intOf i).toNat)
  case atStart => exact ⟨0, by omega, rfl, rfl, 0, rfl⟩
  case round =>
    obtain ⟨k, hk, rfl, rfl, n, rfl⟩ := hrel
    by_cases hlt : k < 7
    · have hle := bestTo_le (d.pend &&& d.en 1) d.pr k
      generalize hB : bestTo (d.pend &&& d.en 1) d.pr k = B at *
      have HB := Lib.hid hB; clear hB
      have c2 : d.cells[3 + (k + 1)]? = some (.int .u32 (d.pr (k + 1))) := d.cell_pr _ (by omega)
      have c3 : d.cells[3 + B]? = some (.int .u32 (d.pr B)) := d.cell_pr _ (by omega)
      have hstep : bestTo (d.pend &&& d.en 1) d.pr (k + 1) = if (d.pend &&& d.en 1).testBit (k + 1) ∧ d.pr B < d.pr (k + 1) then k + 1 else B := by rw [bestTo, HB.out]
      have hstep := Lib.hid hstep
      by_cases ht : (d.pend &&& d.en 1).testBit (k + 1) = true
      · by_cases hpr : d.pr B < d.pr (k + 1)
        · have H2 : Hid (bestTo (d.pend &&& d.en 1) d.pr (k + 1) = k + 1) := by show _ = _; rw [hstep.out, if_pos ⟨ht, hpr⟩]
          have hbit : Hid (∀ W, Calls Try.prog 58 #[.int .u32 ((d.pend &&& d.en 1 : Nat) : Int), .int .i64 ((k : Int) + 1)] W fun e w' => e = .returned (.bool true) ∧ w' = W) := fun W => ref_bit' _ (k + 1) _ (by omega) hxl (by omega) true ht W
          clear hstep
          go_wp2
          go_quiet ((go_at_call 58; exact q_same (hbit.out _)))
          go_wp2
          go_roundw
          case rel => exact ⟨k + 1, by omega, by go_num, by rw [H2.out]; go_num, _, rfl⟩
          case measure => simp [intOf]; omega
        · have H2 : Hid (bestTo (d.pend &&& d.en 1) d.pr (k + 1) = B) := by show _ = _; rw [hstep.out, if_neg (fun h => hpr h.2)]
          have hbit : Hid (∀ W, Calls Try.prog 58 #[.int .u32 ((d.pend &&& d.en 1 : Nat) : Int), .int .i64 ((k : Int) + 1)] W fun e w' => e = .returned (.bool true) ∧ w' = W) := fun W => ref_bit' _ (k + 1) _ (by omega) hxl (by omega) true ht W
          clear hstep
          go_wp2
          go_quiet ((go_at_call 58; exact q_same (hbit.out _)))
          go_wp2
          go_roundw
          case rel => exact ⟨k + 1, by omega, by go_num, by rw [H2.out], _, rfl⟩
          case measure => simp [intOf]; omega
      · have ht : (d.pend &&& d.en 1).testBit (k + 1) = false := by simpa using ht
        · have H2 : Hid (bestTo (d.pend &&& d.en 1) d.pr (k + 1) = B) := by show _ = _; rw [hstep.out, if_neg (by simp [ht])]
          have hbit : Hid (∀ W, Calls Try.prog 58 #[.int .u32 ((d.pend &&& d.en 1 : Nat) : Int), .int .i64 ((k : Int) + 1)] W fun e w' => e = .returned (.bool false) ∧ w' = W) := fun W => ref_bit' _ (k + 1) _ (by omega) hxl (by omega) false ht W
          clear hstep
          go_wp2
          go_quiet ((go_at_call 58; exact q_same (hbit.out _)))
          go_wp2
          go_roundw
          case rel => exact ⟨k + 1, by omega, by go_num, by rw [H2.out], _, rfl⟩
          case measure => simp [intOf]; omega
    · obtain rfl : k = 7 := by omega
      have H2 : Hid (bestTo (d.pend &&& d.en 1) d.pr 7 = d.best 1) := rfl
      go_wp2
      go_ret
      exact ⟨by rw [← H2.out]; rfl, below_drewN ((Below.refl _ _).alloc (Nat.le_refl _) _) _⟩
end Go.Proofs.Ytebdbbpefmgooaa
