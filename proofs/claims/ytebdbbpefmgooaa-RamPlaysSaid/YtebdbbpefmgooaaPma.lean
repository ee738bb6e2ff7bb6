/- What lies where: pma.find and what leans on it. No condition. -/
import Derived.Test.YtebdbbpefmgooaaLib
import Derived.StillTailTactics
import Derived.BigRegion
import Derived.Deep.RegionWith
import Derived.Deep.RegionHeld3
import Derived.Deep.QuietTactic
import Derived.BigQuiet
import Derived.Deep.LoopGhost
import Derived.Deep.DeepCutAuto
import Derived.Deep.DeepFit
import Derived.Deep.DeepMust
import Derived.Handy
set_option linter.unusedVariables false
set_option linter.unusedSimpArgs false
namespace Go.Proofs.Ytebdbbpefmgooaa
open Go.RowKit
/-- the region of an address: its kind, base and size, and how far the address is above its base -/
def pmaFind (n : Nat) (x : Int) : Int × Int × Int × Int :=
  if 4096 ≤ x ∧ x < 8192 then (1, 4096, 4096, x - 4096) else if 33554432 ≤ x ∧ x < 33619968 then (2, 33554432, 65536, x - 33554432)
  else if 201326592 ≤ x ∧ x < 205520896 then (3, 201326592, 4194304, x - 201326592) else if 268435456 ≤ x ∧ x < 268439552 then (4, 268435456, 4096, x - 268435456)
  else if 2147483648 ≤ x ∧ x < 2147483648 + n * 4096 then (5, 2147483648, n * 4096, x - 2147483648) else (0, 0, 0, 0)
set_option maxRecDepth 100000 in
set_option maxHeartbeats 1000000 in
theorem pma_regions (n : Nat) (h4 : 4 ≤ n) (h256 : n ≤ 256) (w : World) :
    Calls Try.prog 90 #[.int .i64 n] w fun e w' => e = .returned (.slice (some ⟨w.heap.size, 0, none⟩) 5 5) ∧ w' = w.alloc (.cells #[.int .i64 1, .int .u64 4096, .int .u64 4096, .int .i64 2, .int .u64 33554432, .int .u64 65536, .int .i64 3, .int .u64 201326592, .int .u64 4194304, .int .i64 4, .int .u64 268435456, .int .u64 4096, .int .i64 5, .int .u64 2147483648, .int .u64 ((n : Int) * 4096)] 137) := by
  go_enter Try.func90, Try.ntmps90
  go_wp2
  go_ret
  exact ⟨rfl, rfl⟩
def FindIs (n : Nat) (x : Int) (w : World) (e : Ending) (w' : World) : Prop := e = .returned (.tuple #[.agg #[.int .i64 (pmaFind n x).1, .int .u64 (pmaFind n x).2.1, .int .u64 (pmaFind n x).2.2.1], .int .u64 (pmaFind n x).2.2.2]) ∧ Below w.heap.size w w'
theorem FindIs.of {n : Nat} {x : Int} {w : World} {e : Ending} {w' : World} (k b s o : Int) (hp : Hid (pmaFind n x = (k, b, s, o))) (he : e = .returned (.tuple #[.agg #[.int .i64 k, .int .u64 b, .int .u64 s], .int .u64 o])) (hb : Below w.heap.size w w') : FindIs n x w e w' := by
  unfold FindIs
  rw [hp.out]
  exact ⟨he, hb⟩

set_option maxRecDepth 100000 in
set_option maxHeartbeats 4000000 in
theorem pma_find_r1 (n : Nat) (h4 : 4 ≤ n) (h256 : n ≤ 256) (x : Int) (h0 : 4096 ≤ x) (h1 : x < 8192) (w : World) :
    Calls Try.prog 86 #[.int .i64 n, .int .u64 x] w (FindIs n x w) := by
  have hp := Lib.hid (show pmaFind n x = (1, 4096, 4096, x - 4096) by unfold pmaFind; repeat (first | rfl | rw [if_pos (by omega)] | rw [if_neg (by omega)]))
  go_enter Try.func86, Try.ntmps86
  go_wp2_with fail
  refine (pma_regions n h4 h256 _).mono ?_
  rintro e w1 ⟨rfl, rfl⟩
  go_wp2_with fail
  go_rounds 6
  all_goals (try go_region)
  all_goals (try go_wp2_with fail)
  all_goals exact bodyPost_ret (v := .tuple #[.agg #[.int .i64 (1), .int .u64 (4096), .int .u64 (4096)], .int .u64 (x - 4096)]) (by simp [results, Try.results86, go_sem]) rfl (FindIs.of _ _ _ _ hp rfl (by go_grown))


set_option maxRecDepth 100000 in
set_option maxHeartbeats 4000000 in
theorem pma_find_r2 (n : Nat) (h4 : 4 ≤ n) (h256 : n ≤ 256) (x : Int) (h0 : 33554432 ≤ x) (h1 : x < 33619968) (w : World) :
    Calls Try.prog 86 #[.int .i64 n, .int .u64 x] w (FindIs n x w) := by
  have hp := Lib.hid (show pmaFind n x = (2, 33554432, 65536, x - 33554432) by unfold pmaFind; repeat (first | rfl | rw [if_pos (by omega)] | rw [if_neg (by omega)]))
  go_enter Try.func86, Try.ntmps86
  go_wp2_with fail
  refine (pma_regions n h4 h256 _).mono ?_
  rintro e w1 ⟨rfl, rfl⟩
  go_wp2_with fail
  go_rounds 6
  all_goals (try go_region)
  all_goals (try go_wp2_with fail)
  all_goals exact bodyPost_ret (v := .tuple #[.agg #[.int .i64 (2), .int .u64 (33554432), .int .u64 (65536)], .int .u64 (x - 33554432)]) (by simp [results, Try.results86, go_sem]) rfl (FindIs.of _ _ _ _ hp rfl (by go_grown))


set_option maxRecDepth 100000 in
set_option maxHeartbeats 4000000 in
theorem pma_find_r3 (n : Nat) (h4 : 4 ≤ n) (h256 : n ≤ 256) (x : Int) (h0 : 201326592 ≤ x) (h1 : x < 205520896) (w : World) :
    Calls Try.prog 86 #[.int .i64 n, .int .u64 x] w (FindIs n x w) := by
  have hp := Lib.hid (show pmaFind n x = (3, 201326592, 4194304, x - 201326592) by unfold pmaFind; repeat (first | rfl | rw [if_pos (by omega)] | rw [if_neg (by omega)]))
  go_enter Try.func86, Try.ntmps86
  go_wp2_with fail
  refine (pma_regions n h4 h256 _).mono ?_
  rintro e w1 ⟨rfl, rfl⟩
  go_wp2_with fail
  go_rounds 6
  all_goals (try go_region)
  all_goals (try go_wp2_with fail)
  all_goals exact bodyPost_ret (v := .tuple #[.agg #[.int .i64 (3), .int .u64 (201326592), .int .u64 (4194304)], .int .u64 (x - 201326592)]) (by simp [results, Try.results86, go_sem]) rfl (FindIs.of _ _ _ _ hp rfl (by go_grown))


set_option maxRecDepth 100000 in
set_option maxHeartbeats 4000000 in
theorem pma_find_r4 (n : Nat) (h4 : 4 ≤ n) (h256 : n ≤ 256) (x : Int) (h0 : 268435456 ≤ x) (h1 : x < 268439552) (w : World) :
    Calls Try.prog 86 #[.int .i64 n, .int .u64 x] w (FindIs n x w) := by
  have hp := Lib.hid (show pmaFind n x = (4, 268435456, 4096, x - 268435456) by unfold pmaFind; repeat (first | rfl | rw [if_pos (by omega)] | rw [if_neg (by omega)]))
  go_enter Try.func86, Try.ntmps86
  go_wp2_with fail
  refine (pma_regions n h4 h256 _).mono ?_
  rintro e w1 ⟨rfl, rfl⟩
  go_wp2_with fail
  go_rounds 6
  all_goals (try go_region)
  all_goals (try go_wp2_with fail)
  all_goals exact bodyPost_ret (v := .tuple #[.agg #[.int .i64 (4), .int .u64 (268435456), .int .u64 (4096)], .int .u64 (x - 268435456)]) (by simp [results, Try.results86, go_sem]) rfl (FindIs.of _ _ _ _ hp rfl (by go_grown))


set_option maxRecDepth 100000 in
set_option maxHeartbeats 4000000 in
theorem pma_find_ram (n : Nat) (h4 : 4 ≤ n) (h256 : n ≤ 256) (x : Int) (h0 : 2147483648 ≤ x) (h1 : x < 2147483648 + n * 4096) (w : World) :
    Calls Try.prog 86 #[.int .i64 n, .int .u64 x] w (FindIs n x w) := by
  have hp := Lib.hid (show pmaFind n x = (5, 2147483648, (n : Int) * 4096, x - 2147483648) by unfold pmaFind; repeat (first | rfl | rw [if_pos (by omega)] | rw [if_neg (by omega)]))
  go_enter Try.func86, Try.ntmps86
  go_wp2_with fail
  refine (pma_regions n h4 h256 _).mono ?_
  rintro e w1 ⟨rfl, rfl⟩
  go_wp2_with fail
  go_rounds 6
  all_goals (try go_region)
  all_goals (try go_wp2_with fail)
  all_goals exact bodyPost_ret (v := .tuple #[.agg #[.int .i64 (5), .int .u64 (2147483648), .int .u64 ((n : Int) * 4096)], .int .u64 (x - 2147483648)]) (by simp [results, Try.results86, go_sem]) rfl (FindIs.of _ _ _ _ hp rfl (by go_grown))


set_option maxRecDepth 100000 in
set_option maxHeartbeats 4000000 in
theorem pma_find_g1 (n : Nat) (h4 : 4 ≤ n) (h256 : n ≤ 256) (x : Int) (h0 : 0 ≤ x) (h1 : x < 4096) (w : World) :
    Calls Try.prog 86 #[.int .i64 n, .int .u64 x] w (FindIs n x w) := by
  have hp := Lib.hid (show pmaFind n x = (0, 0, 0, 0) by unfold pmaFind; repeat (first | rfl | rw [if_pos (by omega)] | rw [if_neg (by omega)]))
  go_enter Try.func86, Try.ntmps86
  go_wp2_with fail
  refine (pma_regions n h4 h256 _).mono ?_
  rintro e w1 ⟨rfl, rfl⟩
  go_wp2_with fail
  go_rounds 6
  all_goals (try go_region)
  all_goals (try go_wp2_with fail)
  all_goals exact bodyPost_ret (v := .tuple #[.agg #[.int .i64 (0), .int .u64 (0), .int .u64 (0)], .int .u64 (0)]) (by simp [results, Try.results86, go_sem]) rfl (FindIs.of _ _ _ _ hp rfl (by go_grown))


set_option maxRecDepth 100000 in
set_option maxHeartbeats 4000000 in
theorem pma_find_g2 (n : Nat) (h4 : 4 ≤ n) (h256 : n ≤ 256) (x : Int) (h0 : 8192 ≤ x) (h1 : x < 33554432) (w : World) :
    Calls Try.prog 86 #[.int .i64 n, .int .u64 x] w (FindIs n x w) := by
  have hp := Lib.hid (show pmaFind n x = (0, 0, 0, 0) by unfold pmaFind; repeat (first | rfl | rw [if_pos (by omega)] | rw [if_neg (by omega)]))
  go_enter Try.func86, Try.ntmps86
  go_wp2_with fail
  refine (pma_regions n h4 h256 _).mono ?_
  rintro e w1 ⟨rfl, rfl⟩
  go_wp2_with fail
  go_rounds 6
  all_goals (try go_region)
  all_goals (try go_wp2_with fail)
  all_goals exact bodyPost_ret (v := .tuple #[.agg #[.int .i64 (0), .int .u64 (0), .int .u64 (0)], .int .u64 (0)]) (by simp [results, Try.results86, go_sem]) rfl (FindIs.of _ _ _ _ hp rfl (by go_grown))


set_option maxRecDepth 100000 in
set_option maxHeartbeats 4000000 in
theorem pma_find_g3 (n : Nat) (h4 : 4 ≤ n) (h256 : n ≤ 256) (x : Int) (h0 : 33619968 ≤ x) (h1 : x < 201326592) (w : World) :
    Calls Try.prog 86 #[.int .i64 n, .int .u64 x] w (FindIs n x w) := by
  have hp := Lib.hid (show pmaFind n x = (0, 0, 0, 0) by unfold pmaFind; repeat (first | rfl | rw [if_pos (by omega)] | rw [if_neg (by omega)]))
  go_enter Try.func86, Try.ntmps86
  go_wp2_with fail
  refine (pma_regions n h4 h256 _).mono ?_
  rintro e w1 ⟨rfl, rfl⟩
  go_wp2_with fail
  go_rounds 6
  all_goals (try go_region)
  all_goals (try go_wp2_with fail)
  all_goals exact bodyPost_ret (v := .tuple #[.agg #[.int .i64 (0), .int .u64 (0), .int .u64 (0)], .int .u64 (0)]) (by simp [results, Try.results86, go_sem]) rfl (FindIs.of _ _ _ _ hp rfl (by go_grown))


set_option maxRecDepth 100000 in
set_option maxHeartbeats 4000000 in
theorem pma_find_g4 (n : Nat) (h4 : 4 ≤ n) (h256 : n ≤ 256) (x : Int) (h0 : 205520896 ≤ x) (h1 : x < 268435456) (w : World) :
    Calls Try.prog 86 #[.int .i64 n, .int .u64 x] w (FindIs n x w) := by
  have hp := Lib.hid (show pmaFind n x = (0, 0, 0, 0) by unfold pmaFind; repeat (first | rfl | rw [if_pos (by omega)] | rw [if_neg (by omega)]))
  go_enter Try.func86, Try.ntmps86
  go_wp2_with fail
  refine (pma_regions n h4 h256 _).mono ?_
  rintro e w1 ⟨rfl, rfl⟩
  go_wp2_with fail
  go_rounds 6
  all_goals (try go_region)
  all_goals (try go_wp2_with fail)
  all_goals exact bodyPost_ret (v := .tuple #[.agg #[.int .i64 (0), .int .u64 (0), .int .u64 (0)], .int .u64 (0)]) (by simp [results, Try.results86, go_sem]) rfl (FindIs.of _ _ _ _ hp rfl (by go_grown))


set_option maxRecDepth 100000 in
set_option maxHeartbeats 4000000 in
theorem pma_find_g5 (n : Nat) (h4 : 4 ≤ n) (h256 : n ≤ 256) (x : Int) (h0 : 268439552 ≤ x) (h1 : x < 2147483648) (w : World) :
    Calls Try.prog 86 #[.int .i64 n, .int .u64 x] w (FindIs n x w) := by
  have hp := Lib.hid (show pmaFind n x = (0, 0, 0, 0) by unfold pmaFind; repeat (first | rfl | rw [if_pos (by omega)] | rw [if_neg (by omega)]))
  go_enter Try.func86, Try.ntmps86
  go_wp2_with fail
  refine (pma_regions n h4 h256 _).mono ?_
  rintro e w1 ⟨rfl, rfl⟩
  go_wp2_with fail
  go_rounds 6
  all_goals (try go_region)
  all_goals (try go_wp2_with fail)
  all_goals exact bodyPost_ret (v := .tuple #[.agg #[.int .i64 (0), .int .u64 (0), .int .u64 (0)], .int .u64 (0)]) (by simp [results, Try.results86, go_sem]) rfl (FindIs.of _ _ _ _ hp rfl (by go_grown))


set_option maxRecDepth 100000 in
set_option maxHeartbeats 4000000 in
theorem pma_find_g6 (n : Nat) (h4 : 4 ≤ n) (h256 : n ≤ 256) (x : Int) (h0 : 2147483648 + n * 4096 ≤ x) (h1 : x < 18446744073709551616) (w : World) :
    Calls Try.prog 86 #[.int .i64 n, .int .u64 x] w (FindIs n x w) := by
  have hp := Lib.hid (show pmaFind n x = (0, 0, 0, 0) by unfold pmaFind; repeat (first | rfl | rw [if_pos (by omega)] | rw [if_neg (by omega)]))
  go_enter Try.func86, Try.ntmps86
  go_wp2_with fail
  refine (pma_regions n h4 h256 _).mono ?_
  rintro e w1 ⟨rfl, rfl⟩
  go_wp2_with fail
  go_rounds 6
  all_goals (try go_region)
  all_goals (try go_wp2_with fail)
  all_goals exact bodyPost_ret (v := .tuple #[.agg #[.int .i64 (0), .int .u64 (0), .int .u64 (0)], .int .u64 (0)]) (by simp [results, Try.results86, go_sem]) rfl (FindIs.of _ _ _ _ hp rfl (by go_grown))

theorem pma_find (n : Nat) (h4 : 4 ≤ n) (h256 : n ≤ 256) (x : Int) (h0 : 0 ≤ x) (h1 : x < 18446744073709551616) (w : World) : Calls Try.prog 86 #[.int .i64 n, .int .u64 x] w (FindIs n x w) := by
  by_cases a1 : x < 4096; exact pma_find_g1 n h4 h256 x h0 a1 w
  by_cases a2 : x < 8192; exact pma_find_r1 n h4 h256 x (by omega) a2 w
  by_cases a3 : x < 33554432; exact pma_find_g2 n h4 h256 x (by omega) a3 w
  by_cases a4 : x < 33619968; exact pma_find_r2 n h4 h256 x (by omega) a4 w
  by_cases a5 : x < 201326592; exact pma_find_g3 n h4 h256 x (by omega) a5 w
  by_cases a6 : x < 205520896; exact pma_find_r3 n h4 h256 x (by omega) a6 w
  by_cases a7 : x < 268435456; exact pma_find_g4 n h4 h256 x (by omega) a7 w
  by_cases a8 : x < 268439552; exact pma_find_r4 n h4 h256 x (by omega) a8 w
  by_cases a9 : x < 2147483648; exact pma_find_g5 n h4 h256 x (by omega) a9 w
  by_cases b1 : x < 2147483648 + n * 4096; exact pma_find_ram n h4 h256 x (by omega) b1 w
  exact pma_find_g6 n h4 h256 x (by omega) h1 w
end Go.Proofs.Ytebdbbpefmgooaa
