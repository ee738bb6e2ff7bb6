/- A slice of structs of four numbers that came in: its cells. No condition. -/
import Derived.Test.YtebdbbpefmgooaaArgs
import Derived.Deep.Slices
import Derived.Deep.Fields
import Derived.Deep.MidRow
set_option linter.unusedVariables false
namespace Go.Proofs.Ytebdbbpefmgooaa
open Go.ChangeShapes Go.WideShapes Go.RowKit Go.Deep
section
variable {H : Type} {enc : TypeId × Value → H} {P : Program} {W : World}
/-- one field of one element that is a number -/
theorem field_int {t : TypeId} {k : IntKind} (ht : P.underlying t = some (.int k)) {base n : Nat} {sp : Nat → Bool} {held : Bool} {v : Value} {y : DataW H × List MemPlace} (h : DataW.trod enc P W base sp held n t [v] = some y) : ∃ x, v = .int k x ∧ (Lit.int k x).wf = true := by
  obtain ⟨x, h1, _, h3⟩ := DataW.trod_int ht h
  exact ⟨x, by simpa using h1, h3⟩
theorem arg_four {t e : TypeId} {f0 f1 f2 f3 : Field} {q0 q1 q2 q3 : IntKind} (ht : P.underlying t = some (.slice e)) (he : P.underlying e = some (.struct #[f0, f1, f2, f3])) (hone : oneCellFields P #[f0, f1, f2, f3] = true) (hC : P.cellsOf e = 4)
    (u0 : P.underlying f0.type = some (.int q0)) (u1 : P.underlying f1.type = some (.int q1)) (u2 : P.underlying f2.type = some (.int q2)) (u3 : P.underlying f3.type = some (.int q3))
    {a : Option Addr} {len cap : Nat} {d : DataW H} {p : List MemPlace} {b0 : Nat} (hv : Value.okWide P W .any b0 t (.slice a len cap)) (h : DataW.Trod enc P W 0 (fun _ => true) true t (.slice a len cap) d p) :
    ∃ Z : Nat → Int × Int × Int × Int, len ≤ cap ∧ cap ≤ 9223372036854775807 ∧ ∀ i, i < cap → ((Lit.int q0 (Z i).1).wf = true ∧ (Lit.int q1 (Z i).2.1).wf = true ∧ (Lit.int q2 (Z i).2.2.1).wf = true ∧ (Lit.int q3 (Z i).2.2.2).wf = true) ∧
      ∃ b o, a = some ⟨b, o, none⟩ ∧ b < W.heap.size ∧ W.rangeAt b (o + i * 4) [.int q0 (Z i).1, .int q1 (Z i).2.1, .int q2 (Z i).2.2.1, .int q3 (Z i).2.2.2] := by
  have hform := slice_form ht hv
  obtain ⟨fuel, hf⟩ := h
  rcases open_slice ht hf with ⟨hcs, hx⟩ | ⟨ad, len', cap', m, n, D, Pl, hcs, _, hl, hm, hmm, hx, hi⟩
  · simp [Value.cells] at hcs
    obtain ⟨rfl, rfl, rfl⟩ := hcs
    exact ⟨fun _ => (0, 0, 0, 0), Nat.le_refl _, by omega, fun i h => absurd h (by omega)⟩
  · simp [Value.cells] at hcs
    obtain ⟨rfl, rfl, rfl⟩ := hcs
    simp only [if_true] at hmm
    subst hmm
    have each : ∀ i, i < m → ∃ z : Int × Int × Int × Int, ((Lit.int q0 z.1).wf = true ∧ (Lit.int q1 z.2.1).wf = true ∧ (Lit.int q2 z.2.2.1).wf = true ∧ (Lit.int q3 z.2.2.2).wf = true) ∧
        ∃ b o, some ad = some (⟨b, o, none⟩ : Addr) ∧ b < W.heap.size ∧ W.rangeAt b (o + i * 4) [.int q0 z.1, .int q1 z.2.1, .int q2 z.2.2.1, .int q3 z.2.2.2] := fun i him => by
      obtain ⟨cs', hc, ht'⟩ := hi i him
      rw [hC] at hc
      obtain ⟨ys, n', hn', hy, hlen, hyl, hg⟩ := DataW.trod_struct he ht'
      obtain ⟨_, hcl, hat⟩ := World.cells?_some hc
      obtain ⟨o0, k0⟩ := hone_of hone 0 f0 rfl
      obtain ⟨o1, k1⟩ := hone_of hone 1 f1 rfl
      obtain ⟨o2, k2⟩ := hone_of hone 2 f2 rfl
      obtain ⟨o3, k3⟩ := hone_of hone 3 f3 rfl
      match cs', hcl, hat with
      | [c0, c1, c2, c3], _, hat =>
        match ys, hyl with
        | [y0, y1, y2, y3], _ =>
          obtain ⟨x0, rfl, w0⟩ := field_int u0 (by simpa [o0, k0] using hg 0 f0 rfl)
          obtain ⟨x1, rfl, w1⟩ := field_int u1 (by simpa [o1, k1] using hg 1 f1 rfl)
          obtain ⟨x2, rfl, w2⟩ := field_int u2 (by simpa [o2, k2] using hg 2 f2 rfl)
          obtain ⟨x3, rfl, w3⟩ := field_int u3 (by simpa [o3, k3] using hg 3 f3 rfl)
          refine ⟨(x0, x1, x2, x3), ⟨w0, w1, w2, w3⟩, ?_⟩
          rcases hform with h0 | ⟨b, o, h1, h2⟩
          · cases h0
          · refine ⟨b, o, h1, h2, fun j v hj => ?_⟩
            cases h1
            have hjl : j < 4 := by have := (List.getElem?_eq_some_iff.1 hj).1; simpa using this
            have h3 := hat j hjl
            rw [Addr.add_mid, Addr.add_mid] at h3
            rw [h3]
            exact hj
    obtain ⟨Z, hZ⟩ := choose_lt (α := Int × Int × Int × Int) each
    exact ⟨Z, hl, hm, hZ⟩
end
end Go.Proofs.Ytebdbbpefmgooaa
