/- The PLIC behind the steps of PlicOrder (plain Lean). No condition. -/
import Derived.Test.YtebdbbpefmgooaaPlicThrW
import Derived.Test.YtebdbbpefmgooaaPlicOrd
import Derived.Handy
import Derived.StillTailTactics
import Derived.BigRegion
import Derived.Deep.RegionWith
import Derived.Deep.QuietTactic
import Derived.BigQuiet
import Derived.Deep.LoopGhost
import Derived.Deep.DeepCutAuto
import Derived.Deep.DeepFit
import Derived.Deep.DeepMust
set_option linter.unusedVariables false
set_option linter.unusedSimpArgs false
namespace Go.Proofs.Ytebdbbpefmgooaa
open Go.RowKit
attribute [local go_sem ↓] ld_dev ld_ref ld_plc st_dev st_ref st_plc
attribute [local go_sem] rl_dev rl_ref rl_plc rs_dev rs_ref rs_plc Dev.size_cells Dev.st_ok Dev.c0 Dev.c1 Dev.c2 Dev.c3 Dev.c4 Dev.c5 Dev.c6 Dev.c7 Dev.c8 Dev.c9 Dev.c10 Dev.c11 Dev.c12 Dev.c13 Dev.c14 Dev.c15 Dev.c16 Dev.c17 Dev.c18 Dev.c19 Dev.c20 Dev.c21 Dev.set_pend Dev.set_cla row_alloc row_drew row_drewN is_alloc is_drew is_drewN row_setCell is_setCell setRow_alloc_new objRow_cells objIs_cells row_setRow_same row_setRow_other is_setRow_same is_setRow_other
theorem place_4s : ∀ s : Nat, 1 ≤ s → s ≤ 7 → placeOf (4 * (s : Int)) = (1, (s : Int))
  | 0, h, _ => absurd h (by omega)
  | 1, _, _ => rfl | 2, _, _ => rfl | 3, _, _ => rfl | 4, _, _ => rfl | 5, _, _ => rfl | 6, _, _ => rfl | 7, _, _ => rfl
  | n + 8, _, h => absurd h (by omega)
theorem and7_small : ∀ v : Nat, v < 8 → and7 (lo32 v) = v
  | 0, _ => rfl | 1, _ => rfl | 2, _ => rfl | 3, _ => rfl | 4, _ => rfl | 5, _ => rfl | 6, _ => rfl | 7, _ => rfl
  | n + 8, h => absurd h (by omega)
/-- the PLIC behind s - 1 rounds of priorities -/
def ordD (P : Nat → Nat) (s : Nat) : Dev := { dev0 with pr := fun j => if j < s then P j else 0 }
theorem ordD_write (P : Nat → Nat) (hP : ∀ j, P j < 8) (s : Nat) (h1 : 1 ≤ s) (h7 : s ≤ 7) : (ordD P s).write (4 * (s : Int)) 4 (P s) = (0, ordD P (s + 1)) := by
  have hf : upd (fun j => if j < s then P j else 0) s (P s) = fun j => if j < s + 1 then P j else 0 := by
    funext j
    unfold upd
    by_cases h : j = s
    · subst h; simp
    · have e : j < s ↔ j < s + 1 := by omega
      simp [h, e]
  unfold Dev.write
  rw [if_pos rfl, place_4s s h1 h7]
  simp only [reduceIte, Int.toNat_natCast, and7_small _ (hP s)]
  show ((0 : Int), ({ dev0 with pr := upd (fun j => if j < s then P j else 0) s (P s) } : Dev)) = (0, ({ dev0 with pr := fun j => if j < s + 1 then P j else 0 } : Dev))
  rw [hf]
/-- the array of priorities, as the law keeps it -/
def ordArr (P : Nat → Nat) (s : Nat) : Array Value := #[.int .i64 0, .int .i64 (if 1 < s then P 1 else 0 : Nat), .int .i64 (if 2 < s then P 2 else 0 : Nat), .int .i64 (if 3 < s then P 3 else 0 : Nat), .int .i64 (if 4 < s then P 4 else 0 : Nat),
  .int .i64 (if 5 < s then P 5 else 0 : Nat), .int .i64 (if 6 < s then P 6 else 0 : Nat), .int .i64 (if 7 < s then P 7 else 0 : Nat)]
theorem ordArr_get (P : Nat → Nat) (h0 : P 0 = 0) (s : Nat) : ∀ j, j < 8 → (ordArr P s)[j]? = some (.int .i64 (if j < s then P j else 0 : Nat))
  | 0, _ => by simp [ordArr, h0]
  | 1, _ => rfl | 2, _ => rfl | 3, _ => rfl | 4, _ => rfl | 5, _ => rfl | 6, _ => rfl | 7, _ => rfl
  | n + 8, h => absurd h (by omega)
theorem ordArr_set (P : Nat → Nat) (s : Nat) (h1 : 1 ≤ s) (h7 : s ≤ 7) : (ordArr P s).setIfInBounds s (.int .i64 (P s : Nat)) = ordArr P (s + 1) := by
  have : s = 1 ∨ s = 2 ∨ s = 3 ∨ s = 4 ∨ s = 5 ∨ s = 6 ∨ s = 7 := by omega
  rcases this with rfl | rfl | rfl | rfl | rfl | rfl | rfl <;> rfl
theorem ordArr_skip (P : Nat → Nat) (s : Nat) (h1 : 1 ≤ s) (h7 : s ≤ 7) (hp : P s = 0) : ordArr P s = ordArr P (s + 1) := by
  have : s = 1 ∨ s = 2 ∨ s = 3 ∨ s = 4 ∨ s = 5 ∨ s = 6 ∨ s = 7 := by omega
  rcases this with rfl | rfl | rfl | rfl | rfl | rfl | rfl <;> simp [ordArr, hp]
end Go.Proofs.Ytebdbbpefmgooaa
