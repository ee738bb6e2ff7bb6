/- The PLIC: a register read, walked. No condition. -/
import Derived.Test.YtebdbbpefmgooaaPlic4
import Derived.StillTailTactics
import Derived.BigRegion
import Derived.Deep.RegionWith
import Derived.Deep.QuietTactic
import Derived.BigQuiet
import Derived.Deep.LoopGhost
import Derived.Deep.DeepCutAuto
import Derived.Deep.DeepFit
import Derived.Deep.DeepMust
set_option linter.unusedVariables false
set_option linter.unusedSimpArgs false
namespace Go.Proofs.Ytebdbbpefmgooaa
open Go.RowKit
theorem wrap_u64_32 (n : Nat) (h : n < 2 ^ 32) : IntKind.u64.wrap (n : Int) = (n : Int) := by rw [IntKind.wrap_u64]; omega
set_option maxRecDepth 100000 in
set_option maxHeartbeats 1000000 in
theorem plic_read1 (d : Dev) (hd : d.Ok) (off : Int) (k : Nat) (hk : k < 8) (hpl : placeOf off = (1, (k : Int))) (b : Nat) (w : World) (hp : PlicAt w b d) :
    Calls Try.prog 28 #[.pointer (some ⟨b, 0, none⟩), .int .u64 off, .int .i64 4] w fun e w' => e = .returned (.tuple #[.int .u64 (d.pr k : Nat), .int .i64 0]) ∧ w = w' := by
  have hw : Hid (∀ w, Calls Try.prog 53 #[.int .u64 off] w (PlaceIs w (1, (k : Int)))) := fun w => hpl ▸ which_any off w
  have c2 : w.cell? ⟨b, 3 + k, none⟩ = some (.int .u32 (d.pr k)) := (blk_cell hp _).trans (d.cell_pr _ hk)
  have hki : (k : Int) < 8 := by omega
  have hwr := wrap_u64_32 (d.pr k) (hd.pr k hk)
  clear hpl hp hd
  go_enter Try.func28, Try.ntmps28
  go_wp2_with fail
  refine (hw.out _).mono ?_
  rintro e w1 ⟨rfl, rfl⟩
  go_wp2
  go_ret2
  exact ⟨rfl, rfl⟩
set_option maxRecDepth 100000 in
set_option maxHeartbeats 1000000 in
theorem plic_read2 (d : Dev) (hd : d.Ok) (off : Int)  (hpl : placeOf off = (2, 0)) (b : Nat) (w : World) (hp : PlicAt w b d) :
    Calls Try.prog 28 #[.pointer (some ⟨b, 0, none⟩), .int .u64 off, .int .i64 4] w fun e w' => e = .returned (.tuple #[.int .u64 (d.pend : Nat), .int .i64 0]) ∧ w = w' := by
  have hw : Hid (∀ w, Calls Try.prog 53 #[.int .u64 off] w (PlaceIs w (2, 0))) := fun w => hpl ▸ which_any off w
  have c2 : w.cell? ⟨b, 11, none⟩ = some (.int .u32 d.pend) := blk_cell hp _
  have hwr := wrap_u64_32 (d.pend) hd.pend
  clear hpl hp hd
  go_enter Try.func28, Try.ntmps28
  go_wp2_with fail
  refine (hw.out _).mono ?_
  rintro e w1 ⟨rfl, rfl⟩
  go_wp2
  go_ret2
  exact ⟨rfl, rfl⟩
set_option maxRecDepth 100000 in
set_option maxHeartbeats 1000000 in
theorem plic_read3 (d : Dev) (hd : d.Ok) (off : Int) (k : Nat) (hk : k < 2) (hpl : placeOf off = (3, (k : Int))) (b : Nat) (w : World) (hp : PlicAt w b d) :
    Calls Try.prog 28 #[.pointer (some ⟨b, 0, none⟩), .int .u64 off, .int .i64 4] w fun e w' => e = .returned (.tuple #[.int .u64 (d.en k : Nat), .int .i64 0]) ∧ w = w' := by
  have hw : Hid (∀ w, Calls Try.prog 53 #[.int .u64 off] w (PlaceIs w (3, (k : Int)))) := fun w => hpl ▸ which_any off w
  have c2 : w.cell? ⟨b, 13 + k, none⟩ = some (.int .u32 (d.en k)) := (blk_cell hp _).trans (d.cell_en _ hk)
  have hki : (k : Int) < 2 := by omega
  have hwr := wrap_u64_32 (d.en k) (hd.en k hk)
  clear hpl hp hd
  go_enter Try.func28, Try.ntmps28
  go_wp2_with fail
  refine (hw.out _).mono ?_
  rintro e w1 ⟨rfl, rfl⟩
  go_wp2
  go_ret2
  exact ⟨rfl, rfl⟩
set_option maxRecDepth 100000 in
set_option maxHeartbeats 1000000 in
theorem plic_read4 (d : Dev) (hd : d.Ok) (off : Int) (k : Nat) (hk : k < 2) (hpl : placeOf off = (4, (k : Int))) (b : Nat) (w : World) (hp : PlicAt w b d) :
    Calls Try.prog 28 #[.pointer (some ⟨b, 0, none⟩), .int .u64 off, .int .i64 4] w fun e w' => e = .returned (.tuple #[.int .u64 (d.th k : Nat), .int .i64 0]) ∧ w = w' := by
  have hw : Hid (∀ w, Calls Try.prog 53 #[.int .u64 off] w (PlaceIs w (4, (k : Int)))) := fun w => hpl ▸ which_any off w
  have c2 : w.cell? ⟨b, 15 + k, none⟩ = some (.int .u32 (d.th k)) := (blk_cell hp _).trans (d.cell_th _ hk)
  have hki : (k : Int) < 2 := by omega
  have hwr := wrap_u64_32 (d.th k) (hd.th k hk)
  clear hpl hp hd
  go_enter Try.func28, Try.ntmps28
  go_wp2_with fail
  refine (hw.out _).mono ?_
  rintro e w1 ⟨rfl, rfl⟩
  go_wp2
  go_ret2
  exact ⟨rfl, rfl⟩
/-- no number, and that error -/
def NumErr (w : World) (k : Int) (e : Ending) (w' : World) : Prop := e = .returned (.tuple #[.int .u64 0, .int .i64 k]) ∧ w = w'
set_option maxRecDepth 100000 in
set_option maxHeartbeats 1000000 in
theorem plic_read0 (off : Int) (hpl : placeOf off = (0, 0)) (b : Nat) (w : World) : Calls Try.prog 28 #[.pointer (some ⟨b, 0, none⟩), .int .u64 off, .int .i64 4] w (NumErr w 6) := by
  have hw : Hid (∀ w, Calls Try.prog 53 #[.int .u64 off] w (PlaceIs w (0, 0))) := fun w => hpl ▸ which_any off w
  clear hpl
  go_enter Try.func28, Try.ntmps28
  go_wp2_with fail
  refine (hw.out _).mono ?_
  rintro e w1 ⟨rfl, rfl⟩
  go_wp2
  go_ret2
  exact ⟨rfl, rfl⟩
set_option maxRecDepth 100000 in
set_option maxHeartbeats 1000000 in
theorem plic_read_size (off size : Int) (hs : (size != 4) = true) (b : Nat) (w : World) : Calls Try.prog 28 #[.pointer (some ⟨b, 0, none⟩), .int .u64 off, .int .i64 size] w (NumErr w 6) := by
  go_enter Try.func28, Try.ntmps28
  go_wp2
  go_ret2
  exact ⟨rfl, rfl⟩
set_option maxRecDepth 100000 in
set_option maxHeartbeats 1000000 in
theorem plic_read_nil (off size : Int) (w : World) : Calls Try.prog 28 #[.pointer none, .int .u64 off, .int .i64 size] w (NumErr w 2) := by
  go_enter Try.func28, Try.ntmps28
  go_wp2
  go_ret2
  exact ⟨rfl, rfl⟩
set_option maxRecDepth 100000 in
set_option maxHeartbeats 1000000 in
theorem plic_read5 (d : Dev) (hd : d.Ok) (off : Int) (k : Nat) (hk : k < 2) (hpl : placeOf off = (5, (k : Int))) (b : Nat) (w : World) (hp : PlicAt w b d) (hpos : 0 < d.best k) :
    Calls Try.prog 28 #[.pointer (some ⟨b, 0, none⟩), .int .u64 off, .int .i64 4] w fun e w' => e = .returned (.tuple #[.int .u64 (d.best k), .int .i64 0]) ∧ PlicSet w b (d.claim (d.best k)) w' := by
  have hw : Hid (∀ w, Calls Try.prog 53 #[.int .u64 off] w (PlaceIs w (5, k))) := fun w => hpl ▸ which_any off w
  have hbest : Hid (∀ w, PlicAt w b d → Calls Try.prog 30 #[.pointer (some ⟨b, 0, none⟩), .int .i64 k] w fun e w' => e = .returned (.int .i64 (d.best k)) ∧ ∃ n, w' = w.drewN n) := fun w h => plic_best d hd b k hk w h
  have hs7 : d.best k ≤ 7 := bestTo_le _ _ _
  generalize d.best k = s at *
  have c0 : w.cell? ⟨b, 11, none⟩ = some (.int .u32 d.pend) := blk_cell hp 11
  have c1 : w.cell? ⟨b, 12, none⟩ = some (.int .u32 d.cla) := blk_cell hp 12
  have f0 : w.frozen? ⟨b, 11, none⟩ = false := blk_frozen hp 11
  have f1 : w.frozen? ⟨b, 12, none⟩ = false := blk_frozen hp 12
  have HP := Lib.hid hp
  have e0 := shl1_32 hs7
  have e1 := andNot32_i d.pend (pow2 s) hd.pend (pow2_lt hs7)
  have e2 := or32 d.cla (pow2 s) hd.cla (pow2_lt hs7)
  have hpos' : (0 : Int) < s := by omega
  clear hpl hp hd hpos
  go_enter Try.func28, Try.ntmps28
  go_wp2_with fail
  refine (hw.out _).mono ?_
  rintro e w1 ⟨rfl, rfl⟩
  go_wp2_with fail
  refine (hbest.out _ HP.out).mono ?_
  rintro e w1 ⟨rfl, n, rfl⟩
  go_wp2
  go_region
  go_wp2
  go_region
  go_wp2
  go_ret2
  refine ⟨?_, ?_, ?_⟩
  · rfl
  · exact blk_set (blk_set HP.out 11 _) 12 _
  · exact grown_drew (grown_set (grown_set (grown_drewN (grown_refl _ _) _) _ _) _ _)
set_option maxRecDepth 100000 in
set_option maxHeartbeats 1000000 in
theorem plic_read5z (d : Dev) (hd : d.Ok) (off : Int) (k : Nat) (hk : k < 2) (hpl : placeOf off = (5, (k : Int))) (b : Nat) (w : World) (hp : PlicAt w b d) (hz : d.best k = 0) :
    Calls Try.prog 28 #[.pointer (some ⟨b, 0, none⟩), .int .u64 off, .int .i64 4] w fun e w' => e = .returned (.tuple #[.int .u64 0, .int .i64 0]) ∧ ∃ n, w' = w.drewN n := by
  have hw : Hid (∀ w, Calls Try.prog 53 #[.int .u64 off] w (PlaceIs w (5, k))) := fun w => hpl ▸ which_any off w
  have hbest : Hid (∀ w, PlicAt w b d → Calls Try.prog 30 #[.pointer (some ⟨b, 0, none⟩), .int .i64 k] w fun e w' => e = .returned (.int .i64 0) ∧ ∃ n, w' = w.drewN n) := by
    intro w h; have := plic_best d hd b k hk w h; rw [hz] at this; exact this
  have HP := Lib.hid hp
  clear hpl hp hd hz
  go_enter Try.func28, Try.ntmps28
  go_wp2_with fail
  refine (hw.out _).mono ?_
  rintro e w1 ⟨rfl, rfl⟩
  go_wp2_with fail
  refine (hbest.out _ HP.out).mono ?_
  rintro e w1 ⟨rfl, n, rfl⟩
  go_wp2
  go_ret2
  exact ⟨rfl, n, rfl⟩
end Go.Proofs.Ytebdbbpefmgooaa
