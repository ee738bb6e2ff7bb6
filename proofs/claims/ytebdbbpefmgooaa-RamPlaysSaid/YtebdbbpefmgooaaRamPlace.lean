/- Contract of tappetlaw10.place. No condition. -/
import Derived.Test.YtebdbbpefmgooaaRamSame
set_option linter.unusedVariables false
set_option linter.unusedSimpArgs false
namespace Go.Proofs.Ytebdbbpefmgooaa
open Go.RowKit
set_option maxRecDepth 100000
/-- where an operation of the script is done -/
def placeAt (x : Int) (raw : Bool) : Int := if raw then x else 2147483648 + x % 2097152
theorem placeAt_lo (x : Int) (raw : Bool) (h : 0 ≤ x) : 0 ≤ placeAt x raw := by unfold placeAt; split <;> omega
theorem placeAt_hi (x : Int) (raw : Bool) (h : x < 18446744073709551616) : placeAt x raw < 18446744073709551616 := by unfold placeAt; split <;> omega
theorem law_place {w : World} (k n x v : Int) (raw : Bool) (s t : Value) (x0 : 0 ≤ x) (x1 : x < 18446744073709551616) :
    Calls Try.prog 66 #[.agg #[.int .i64 k, .int .i64 n, .int .u64 x, .bool raw, s, t, .int .u64 v]] w fun e w' => e = .returned (.int .u64 (placeAt x raw)) ∧ Below w.heap.size w w' := by
  have hw : IntKind.u64.wrap (2147483648 + x % 2097152) = 2147483648 + x % 2097152 := by rw [IntKind.wrap_u64]; omega
  cases raw with
  | true =>
    go_enter Try.func66, Try.ntmps66
    go_wp2
    go_ret
    exact ⟨rfl, by first | exact (Below.refl _ _).alloc (Nat.le_refl _) _ | (have := Below.refl w.heap.size w; exact below_drewN this 0)⟩
  | false =>
    go_enter Try.func66, Try.ntmps66
    go_wp2
    go_ret
    exact ⟨rfl, by first | exact (Below.refl _ _).alloc (Nat.le_refl _) _ | (have := Below.refl w.heap.size w; exact below_drewN this 0)⟩
end Go.Proofs.Ytebdbbpefmgooaa
