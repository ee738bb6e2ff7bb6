/- The PLIC: its table of registers, walked. No condition. -/
import Derived.Test.YtebdbbpefmgooaaPlic2
import Derived.Handy
import Derived.StillTailTactics
import Derived.BigRegion
import Derived.Deep.RegionWith
import Derived.Deep.QuietTactic
import Derived.BigQuiet
import Derived.Deep.LoopGhost
import Derived.Deep.DeepCutAuto
import Derived.Deep.DeepFit
import Derived.Deep.DeepMust
set_option linter.unusedVariables false
set_option linter.unusedSimpArgs false
namespace Go.Proofs.Ytebdbbpefmgooaa
open Go.RowKit
/-- a register's kind and number, as a call answers them -/
def PlaceIs (w : World) (p : Int × Int) (e : Ending) (w' : World) : Prop := e = .returned (.tuple #[.int .i64 p.1, .int .i64 p.2]) ∧ w = w'
set_option maxRecDepth 100000 in
set_option maxHeartbeats 1000000 in
theorem which_4096 (w : World) : Calls Try.prog 53 #[.int .u64 4096] w (PlaceIs w (2, 0)) := by
  go_enter Try.func53, Try.ntmps53
  go_wp2
  go_rounds 8
  go_rounds 3
  go_wp2
  go_ret2
  exact ⟨rfl, rfl⟩
set_option maxRecDepth 100000 in
set_option maxHeartbeats 1000000 in
theorem which_8192 (w : World) : Calls Try.prog 53 #[.int .u64 8192] w (PlaceIs w (3, 0)) := by
  go_enter Try.func53, Try.ntmps53
  go_wp2
  go_rounds 8
  go_rounds 3
  go_ret2
  exact ⟨rfl, rfl⟩
set_option maxRecDepth 100000 in
set_option maxHeartbeats 1000000 in
theorem which_8320 (w : World) : Calls Try.prog 53 #[.int .u64 8320] w (PlaceIs w (3, 1)) := by
  go_enter Try.func53, Try.ntmps53
  go_wp2
  go_rounds 8
  go_rounds 3
  go_ret2
  exact ⟨rfl, rfl⟩
set_option maxRecDepth 100000 in
set_option maxHeartbeats 1000000 in
theorem which_2097152 (w : World) : Calls Try.prog 53 #[.int .u64 2097152] w (PlaceIs w (4, 0)) := by
  go_enter Try.func53, Try.ntmps53
  go_wp2
  go_rounds 8
  go_rounds 3
  go_ret2
  exact ⟨rfl, rfl⟩
set_option maxRecDepth 100000 in
set_option maxHeartbeats 1000000 in
theorem which_2101248 (w : World) : Calls Try.prog 53 #[.int .u64 2101248] w (PlaceIs w (4, 1)) := by
  go_enter Try.func53, Try.ntmps53
  go_wp2
  go_rounds 8
  go_rounds 3
  go_ret2
  exact ⟨rfl, rfl⟩
set_option maxRecDepth 100000 in
set_option maxHeartbeats 1000000 in
theorem which_2097156 (w : World) : Calls Try.prog 53 #[.int .u64 2097156] w (PlaceIs w (5, 0)) := by
  go_enter Try.func53, Try.ntmps53
  go_wp2
  go_rounds 8
  go_rounds 3
  go_ret2
  exact ⟨rfl, rfl⟩
set_option maxRecDepth 100000 in
set_option maxHeartbeats 1000000 in
theorem which_2101252 (w : World) : Calls Try.prog 53 #[.int .u64 2101252] w (PlaceIs w (5, 1)) := by
  go_enter Try.func53, Try.ntmps53
  go_wp2
  go_rounds 8
  go_rounds 3
  go_ret2
  exact ⟨rfl, rfl⟩
set_option maxRecDepth 100000 in
set_option maxHeartbeats 1000000 in
theorem which_4 (w : World) : Calls Try.prog 53 #[.int .u64 4] w (PlaceIs w (1, 1)) := by
  go_enter Try.func53, Try.ntmps53
  go_wp2
  go_rounds 8
  go_ret2
  exact ⟨rfl, rfl⟩
set_option maxRecDepth 100000 in
set_option maxHeartbeats 1000000 in
theorem which_8 (w : World) : Calls Try.prog 53 #[.int .u64 8] w (PlaceIs w (1, 2)) := by
  go_enter Try.func53, Try.ntmps53
  go_wp2
  go_rounds 8
  go_ret2
  exact ⟨rfl, rfl⟩
set_option maxRecDepth 100000 in
set_option maxHeartbeats 1000000 in
theorem which_12 (w : World) : Calls Try.prog 53 #[.int .u64 12] w (PlaceIs w (1, 3)) := by
  go_enter Try.func53, Try.ntmps53
  go_wp2
  go_rounds 8
  go_ret2
  exact ⟨rfl, rfl⟩
set_option maxRecDepth 100000 in
set_option maxHeartbeats 1000000 in
theorem which_16 (w : World) : Calls Try.prog 53 #[.int .u64 16] w (PlaceIs w (1, 4)) := by
  go_enter Try.func53, Try.ntmps53
  go_wp2
  go_rounds 8
  go_ret2
  exact ⟨rfl, rfl⟩
set_option maxRecDepth 100000 in
set_option maxHeartbeats 1000000 in
theorem which_20 (w : World) : Calls Try.prog 53 #[.int .u64 20] w (PlaceIs w (1, 5)) := by
  go_enter Try.func53, Try.ntmps53
  go_wp2
  go_rounds 8
  go_ret2
  exact ⟨rfl, rfl⟩
set_option maxRecDepth 100000 in
set_option maxHeartbeats 1000000 in
theorem which_24 (w : World) : Calls Try.prog 53 #[.int .u64 24] w (PlaceIs w (1, 6)) := by
  go_enter Try.func53, Try.ntmps53
  go_wp2
  go_rounds 8
  go_ret2
  exact ⟨rfl, rfl⟩
set_option maxRecDepth 100000 in
set_option maxHeartbeats 1000000 in
theorem which_28 (w : World) : Calls Try.prog 53 #[.int .u64 28] w (PlaceIs w (1, 7)) := by
  go_enter Try.func53, Try.ntmps53
  go_wp2
  go_rounds 8
  go_ret2
  exact ⟨rfl, rfl⟩
set_option maxRecDepth 100000 in
set_option maxHeartbeats 1000000 in
theorem which_none (off : Int) (w : World) (h4096 : (off == 4096) = false) (h8192 : (off == 8192) = false) (h8320 : (off == 8320) = false) (h2097152 : (off == 2097152) = false) (h2101248 : (off == 2101248) = false) (h2097156 : (off == 2097156) = false) (h2101252 : (off == 2101252) = false) (h4 : (off == 4) = false) (h8 : (off == 8) = false) (h12 : (off == 12) = false) (h16 : (off == 16) = false) (h20 : (off == 20) = false) (h24 : (off == 24) = false) (h28 : (off == 28) = false) : Calls Try.prog 53 #[.int .u64 off] w (PlaceIs w (0, 0)) := by
  go_enter Try.func53, Try.ntmps53
  go_wp2
  go_rounds 8
  go_rounds 3
  go_ret2
  exact ⟨rfl, rfl⟩
theorem which_any (off : Int) (w : World) : Calls Try.prog 53 #[.int .u64 off] w (PlaceIs w (placeOf off)) := by
  unfold placeOf
  by_cases h4096 : off = 4096
  · subst h4096; exact which_4096 w
  rw [if_neg h4096]
  by_cases h8192 : off = 8192
  · subst h8192; exact which_8192 w
  rw [if_neg h8192]
  by_cases h8320 : off = 8320
  · subst h8320; exact which_8320 w
  rw [if_neg h8320]
  by_cases h2097152 : off = 2097152
  · subst h2097152; exact which_2097152 w
  rw [if_neg h2097152]
  by_cases h2101248 : off = 2101248
  · subst h2101248; exact which_2101248 w
  rw [if_neg h2101248]
  by_cases h2097156 : off = 2097156
  · subst h2097156; exact which_2097156 w
  rw [if_neg h2097156]
  by_cases h2101252 : off = 2101252
  · subst h2101252; exact which_2101252 w
  rw [if_neg h2101252]
  by_cases h4 : off = 4
  · subst h4; exact which_4 w
  rw [if_neg h4]
  by_cases h8 : off = 8
  · subst h8; exact which_8 w
  rw [if_neg h8]
  by_cases h12 : off = 12
  · subst h12; exact which_12 w
  rw [if_neg h12]
  by_cases h16 : off = 16
  · subst h16; exact which_16 w
  rw [if_neg h16]
  by_cases h20 : off = 20
  · subst h20; exact which_20 w
  rw [if_neg h20]
  by_cases h24 : off = 24
  · subst h24; exact which_24 w
  rw [if_neg h24]
  by_cases h28 : off = 28
  · subst h28; exact which_28 w
  rw [if_neg h28]
  exact which_none off w (by simpa using h4096) (by simpa using h8192) (by simpa using h8320) (by simpa using h2097152) (by simpa using h2101248) (by simpa using h2097156) (by simpa using h2101252) (by simpa using h4) (by simpa using h8) (by simpa using h12) (by simpa using h16) (by simpa using h20) (by simpa using h24) (by simpa using h28)
end Go.Proofs.Ytebdbbpefmgooaa
