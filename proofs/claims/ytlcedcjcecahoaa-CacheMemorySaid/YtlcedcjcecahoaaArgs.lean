/- Slices of numbers and of bools that came in as arguments: what their cells hold, and how great they may be. No condition. -/
import Derived.WalkKit
import Derived.OpenShut
import Derived.ChangeOld
import Derived.SizedLaws
import Derived.ChangeSlices
import Derived.Deep.Grids
set_option linter.unusedVariables false
namespace Go.Proofs.Ytlcedcjcecahoaa
open Go.ChangeShapes Go.WideShapes Go.RowKit Go.Deep

/-- a slice's cells: so many values, in a block that is there -/
def IsRow (w : World) (a : Option Addr) (len : Nat) (V : Nat → Value) : Prop := 0 < len → ∃ b o, a = some ⟨b, o, none⟩ ∧ b < w.heap.size ∧ ∀ i, i < len → w.cell? ⟨b, o + i, none⟩ = some (V i)
theorem IsRow.le {w : World} {a : Option Addr} {len len' : Nat} {V : Nat → Value} (h : IsRow w a len V) (hl : len' ≤ len) : IsRow w a len' V := by
  intro h0
  obtain ⟨b, o, h1, h2, h3⟩ := h (by omega)
  exact ⟨b, o, h1, h2, fun i hi => h3 i (by omega)⟩
/-- what a slice that came in is: its length and capacity, and its cells up to the capacity -/
structure ArgRow (w : World) (a : Option Addr) (len cap : Nat) (V : Nat → Value) : Prop where
  le : len ≤ cap
  max : cap ≤ 9223372036854775807
  nil : a = none → cap = 0
  form : a = none ∨ ∃ b o, a = some ⟨b, o, none⟩ ∧ b < w.heap.size
  row : IsRow w a cap V
theorem slice_form {P : Program} {W : World} {base : Nat} {t e : TypeId} (ht : P.underlying t = some (.slice e)) {a : Option Addr} {len cap : Nat} (h : Value.okWide P W .any base t (.slice a len cap)) : a = none ∨ ∃ b o, a = some ⟨b, o, none⟩ ∧ b < W.heap.size := by
  simp only [Value.okWide, ht, Cell.okWide] at h
  rcases a with _ | ⟨b, o, s⟩
  · exact .inl rfl
  · right
    simp only [Cell.ok, ht] at h
    obtain ⟨_, _, _, hs, r, c, hsh, _⟩ := h
    simp only at hs
    subst hs
    refine ⟨b, o, rfl, ?_⟩
    unfold World.shape? at hsh
    split at hsh
    · rename_i hh
      exact (Array.getElem?_eq_some_iff.1 hh).1
    · cases hsh
/-- how many elements a datum has -/
def DatumHas {H : Type} (d : DataW H) (cap : Nat) : Prop := (d = .nil ∧ cap = 0) ∨ ∃ elems spare, d = .slice elems spare ∧ elems.length + spare.length = cap
theorem row_of_cells {w : World} {a : Addr} {n : Nat} {V : Nat → Value} (h : ∀ i, i < n → w.cell? (a.add i) = some (V i)) : IsRow w (some a) n V := by
  intro hn
  obtain ⟨b, o, s⟩ := a
  have h0 := h 0 hn
  have hs : s = none := by
    unfold Addr.add at h0
    simp only [if_true] at h0
    unfold World.cell? at h0
    split at h0
    · cases s <;> simp_all
    · cases h0
  subst hs
  have hadd : ∀ i, (⟨b, o, none⟩ : Addr).add i = ⟨b, o + i, none⟩ := fun i => by unfold Addr.add; split <;> simp_all
  refine ⟨b, o, rfl, ?_, fun i hi => by rw [← hadd]; exact h i hi⟩
  exact World.block_lt_of_cell? w _ ((hadd 0) ▸ h0)
section
variable {H : Type} {enc : TypeId × Value → H} {P : Program} {W : World}
theorem arg_ints {t e : TypeId} {k : IntKind} (ht : P.underlying t = some (.slice e)) (he : P.underlying e = some (.int k)) (hc : P.cellsOf e = 1) {a : Option Addr} {len cap : Nat} {d : DataW H} {p : List MemPlace} {b0 : Nat} (hv : Value.okWide P W .any b0 t (.slice a len cap))
    (h : DataW.Trod enc P W 0 (fun _ => true) true t (.slice a len cap) d p) :
    ∃ z : Nat → Int, (∀ i, (Lit.int k (z i)).wf = true) ∧ ArgRow W a len cap (fun i => .int k (z i)) ∧ DatumHas d cap := by
  have hform := slice_form ht hv
  obtain ⟨fuel, hf⟩ := h
  have hw0 : (Lit.int k 0).wf = true := by cases k <;> decide
  rcases open_ints ht he hc hf with ⟨hcs, hx⟩ | ⟨ad, len', cap', zs, hcs, _, hl, hm, hz, hx, hcell, hwz⟩
  · simp [Value.cells] at hcs
    obtain ⟨rfl, rfl, rfl⟩ := hcs
    simp only [Prod.mk.injEq] at hx
    exact ⟨fun _ => 0, fun _ => hw0, ⟨Nat.le_refl _, by omega, fun _ => rfl, hform, fun h => absurd h (by omega)⟩, .inl ⟨hx.1, rfl⟩⟩
  · simp [Value.cells] at hcs
    obtain ⟨rfl, rfl, rfl⟩ := hcs
    simp only [Prod.mk.injEq] at hx
    simp only [if_true] at hz
    refine ⟨fun i => zs.getD i 0, fun i => ?_, ⟨hl, hm, (fun h => nomatch h), hform, row_of_cells fun i hi => hcell i (by omega)⟩, .inr ⟨_, _, hx.1, ?_⟩⟩
    · by_cases hi : i < zs.length
      · have e : zs.getD i 0 = zs[i] := by simp [List.getD, hi]
        simp only [e]; exact hwz _ (List.getElem_mem hi)
      · have e : zs.getD i 0 = 0 := by simp [List.getD, hi]
        simp only [e]; exact hw0
    · simp [lits]; omega
theorem arg_bools {t e : TypeId} (ht : P.underlying t = some (.slice e)) (he : P.underlying e = some .bool) (hc : P.cellsOf e = 1) {a : Option Addr} {len cap : Nat} {d : DataW H} {p : List MemPlace} {b0 : Nat} (hv : Value.okWide P W .any b0 t (.slice a len cap))
    (h : DataW.Trod enc P W 0 (fun _ => true) true t (.slice a len cap) d p) :
    ∃ z : Nat → Bool, ArgRow W a len cap (fun i => .bool (z i)) ∧ DatumHas d cap := by
  have hform := slice_form ht hv
  obtain ⟨fuel, hf⟩ := h
  rcases open_bools ht he hc hf with ⟨hcs, hx⟩ | ⟨ad, len', cap', z, hcs, _, hl, hm, hx, hcell⟩
  · simp [Value.cells] at hcs
    obtain ⟨rfl, rfl, rfl⟩ := hcs
    simp only [Prod.mk.injEq] at hx
    exact ⟨fun _ => false, ⟨Nat.le_refl _, by omega, fun _ => rfl, hform, fun h => absurd h (by omega)⟩, .inl ⟨hx.1, rfl⟩⟩
  · simp [Value.cells] at hcs
    obtain ⟨rfl, rfl, rfl⟩ := hcs
    simp only [Prod.mk.injEq] at hx
    refine ⟨z, ⟨hl, hm, (fun h => nomatch h), hform, row_of_cells fun i hi => hcell i hi⟩, .inr ⟨_, _, hx.1, ?_⟩⟩
    simp; omega
/-- the form's reach -/
theorem arg_size {ts : List TypeId} {ds : List (DataW H)} (h : (DataW.weightsEach P ts ds).all (· ≤ reachBytes) = true) {j : Nat} {t e : TypeId} {d : DataW H} {cap : Nat} (ht : ts[j]? = some t) (hd : ds[j]? = some d) (hu : P.underlying t = some (.slice e)) (hh : DatumHas d cap) (b : Nat) (hb : P.bytesOf e = b) :
    cap * b ≤ 140737488351232 := by
  rcases hh with ⟨rfl, rfl⟩ | ⟨el, sp, rfl, rfl⟩
  · omega
  · have := sized_slice h ht hd hu
    rw [hb] at this
    exact this
end
end Go.Proofs.Ytlcedcjcecahoaa
