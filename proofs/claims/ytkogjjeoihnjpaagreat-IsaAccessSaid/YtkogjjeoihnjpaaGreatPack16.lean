/- pma.May of any access of 1, 2, 4 or 8 bytes, told plainly; what it says. No condition. -/
import Derived.Test.YtkogjjeoihnjpaaGreatPack11
import Derived.StillTailTactics
import Derived.BigRegion
import Derived.Deep.RegionWith
import Derived.Deep.QuietTactic
import Derived.BigQuiet
import Derived.Deep.DeepFit
import Derived.Handy
section
set_option linter.unusedVariables false
set_option linter.unusedSimpArgs false
namespace Go.Proofs.YtkogjjeoihnjpaaGreat
open Go.RowKit
set_option maxRecDepth 100000
/-- may it be? -/
def mayAny (n : Nat) (x size kind : Int) (at_ : Bool) : Bool := (pmaFind n x).1 != 0 && !decide (IntKind.u64.wrap ((pmaFind n x).2.2.1 - size) < (pmaFind n x).2.2.2) && !(at_ && (pmaFind n x).1 != 5) && ((kind == 0 && ((pmaFind n x).1 == 1 || (pmaFind n x).1 == 5)) || kind == 1 || (kind == 2 && (pmaFind n x).1 != 1))
def MayAnyIs (n : Nat) (x size kind : Int) (at_ : Bool) (w : World) (e : Ending) (w' : World) : Prop := e = .returned (.bool (mayAny n x size kind at_)) ∧ Below w.heap.size w w'
set_option maxHeartbeats 16000000 in
theorem pma_may_any (n : Nat) (h4 : 4 ≤ n) (h256 : n ≤ 256) (x : Int) (h0 : 0 ≤ x) (h1 : x < 18446744073709551616) (size kind : Int) (hs : size = 1 ∨ size = 2 ∨ size = 4 ∨ size = 8) (hk : kind = 0 ∨ kind = 1 ∨ kind = 2 ∨ kind = 3) (at_ : Bool) (w : World) :
    Calls Tryz.prog 148 #[.int .i64 n, .int .u64 x, .int .i64 size, .int .i64 kind, .bool at_] w (MayAnyIs n x size kind at_ w) := by
  have HF := Lib.hid (pma_find n h4 h256 x h0 h1)
  have HR : Hid (∀ b w', mayAny n x size kind at_ = b → Below w.heap.size w w' → MayAnyIs n x size kind at_ w (.returned (.bool b)) w') := fun b w' h hb => ⟨by rw [h], hb⟩
  unfold mayAny at HR
  have esz : IntKind.u64.wrap size = size := by rw [IntKind.wrap_u64]; omega
  unfold FindIs at HF
  generalize pmaFind n x = f at *
  obtain ⟨k, b, s, o⟩ := f
  clear h4 h256 h0 h1
  simp only at HR HF
  cases ek : (k == 0) <;> cases e1 : (k == 1) <;> cases e5 : (k == 5) <;> cases eo : decide (IntKind.u64.wrap (s - size) < o) <;> cases at_
  all_goals
    first
      | (exfalso; simp at ek e1 e5; omega)
      | skip
  all_goals
    rcases hs with rfl | rfl | rfl | rfl <;> rcases hk with rfl | rfl | rfl | rfl
  all_goals
    go_enter Tryz.func148, Tryz.ntmps148
    go_wp2_with fail
    refine (HF.out w).mono ?_
    rintro e w1 ⟨rfl, hb⟩
    have HB := Lib.hid hb
    clear hb
    go_wp2
    go_ret
    refine HR.out _ _ ?_ (below_then HB.out ((Below.refl _ _).alloc (Nat.le_refl _) _) HB.out.size)
    rw [eo]; simp only [bne, ek, e1, e5]; rfl
end Go.Proofs.YtkogjjeoihnjpaaGreat
end
