/- Bytes and bools that came in, as the walks take them. No condition. -/
import Derived.Test.YtebdbbpefmgooaaArgs
import Derived.Test.YtebdbbpefmgooaaRam4
set_option linter.unusedVariables false
set_option linter.unusedSimpArgs false
namespace Go.Proofs.Ytebdbbpefmgooaa
open Go.RowKit
theorem wf_u8' {a : Int} (h : (Lit.int .u8 a).wf = true) : 0 ≤ a ∧ a ≤ 255 := by simpa [Lit.wf, IntKind.min, IntKind.max, IntKind.signed, IntKind.bits] using h
theorem wf_u64' {a : Int} (h : (Lit.int .u64 a).wf = true) : 0 ≤ a ∧ a ≤ 18446744073709551615 := by simpa [Lit.wf, IntKind.min, IntKind.max, IntKind.signed, IntKind.bits] using h
theorem wf_i64' {a : Int} (h : (Lit.int .i64 a).wf = true) : -9223372036854775808 ≤ a ∧ a ≤ 9223372036854775807 := by simpa [Lit.wf, IntKind.min, IntKind.max, IntKind.signed, IntKind.bits] using h
/-- the first n numbers of z -/
def listOf (z : Nat → Int) (n : Nat) : List Int := (List.range n).map z
theorem listOf_len (z : Nat → Int) (n : Nat) : (listOf z n).length = n := by simp [listOf]
theorem listOf_getD (z : Nat → Int) (n i : Nat) (h : i < n) : (listOf z n).getD i 0 = z i := by simp [listOf, List.getD, h]
theorem argB {w : World} {a : Option Addr} {len cap : Nat} {z : Nat → Int} (h : ArgRow w a len cap (fun i => .int .u8 (z i))) (hz : ∀ i, (Lit.int .u8 (z i)).wf = true) {n : Nat} (hn : n ≤ cap) : IsB w a n (listOf z n) := by
  refine ⟨listOf_len _ _, fun x hx => ?_, ?_⟩
  · simp only [listOf, List.mem_map] at hx
    obtain ⟨i, _, rfl⟩ := hx
    exact wf_u8' (hz i)
  · rcases h.form with h0 | ⟨b, o, rfl, hb⟩
    · exact .inl ⟨h0, by have := h.nil h0; omega⟩
    · right
      refine ⟨b, o, rfl, fun i hi => ?_⟩
      obtain ⟨b', o', h1, _, h3⟩ := h.row (by omega)
      cases h1
      rw [h3 i (by omega), listOf_getD _ _ _ hi]
/-- an argument's cells lie in none of the blocks that are made since -/
theorem ArgRow.apart {w : World} {a : Option Addr} {len cap : Nat} {V : Nat → Value} (h : ArgRow w a len cap V) {S : Nat → Prop} (hS : ∀ g, S g → w.heap.size ≤ g) : Apart S a := by
  rintro b o s rfl hb
  rcases h.form with h0 | ⟨b', o', h1, h2⟩
  · cases h0
  · cases h1
    have := hS b hb
    omega
end Go.Proofs.Ytebdbbpefmgooaa
