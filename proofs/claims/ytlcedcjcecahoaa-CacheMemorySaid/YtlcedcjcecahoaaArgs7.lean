/- A slice of structs of one-cell fields that came in: its cells, each field's own reading, and how great what lies behind it may be. No condition. -/
import Derived.Test.YtlcedcjcecahoaaArgs
import Derived.Deep.Slices
import Derived.Deep.Fields
import Derived.Deep.MidRow
set_option linter.unusedVariables false
namespace Go.Proofs.Ytlcedcjcecahoaa
open Go.ChangeShapes Go.WideShapes Go.RowKit Go.Deep
section
variable {H : Type} {enc : TypeId × Value → H} {P : Program} {W : World}
theorem weights_mem_all {e : TypeId} : ∀ {l : List (DataW H)} {d : DataW H}, d ∈ l → ∀ n ∈ d.weights P e, n ∈ DataW.weightsAll P e l
  | d :: r, _, .head _, n, hn => by simp only [DataW.weightsAll, List.mem_append]; exact .inl hn
  | d' :: r, d, .tail _ h, n, hn => by simp only [DataW.weightsAll, List.mem_append]; exact .inr (weights_mem_all h n hn)
/-- how great each part of a datum may be -/
def Light (P : Program) (t : TypeId) (d : DataW H) : Prop := ∀ n ∈ d.weights P t, n ≤ reachBytes
theorem light_arg {ts : List TypeId} {ds : List (DataW H)} (h : (DataW.weightsEach P ts ds).all (· ≤ reachBytes) = true) {j : Nat} {t : TypeId} {d : DataW H} (ht : ts[j]? = some t) (hd : ds[j]? = some d) : Light P t d := fun n hn => by
  have := List.all_eq_true.1 h n (DataW.weights_mem_each ht hd n hn)
  simpa using this
theorem Light.elem {t e : TypeId} (hu : P.underlying t = some (.slice e)) {elems spare : List (DataW H)} (h : Light P t (.slice elems spare)) {d : DataW H} (hd : d ∈ elems ∨ d ∈ spare) : Light P e d := fun n hn => by
  refine h n ?_
  simp only [DataW.weights, hu, List.mem_cons, List.mem_append]
  exact .inr (hd.imp (fun h => weights_mem_all h n hn) (fun h => weights_mem_all h n hn))
theorem Light.field {t : TypeId} {fs : Array Field} (hu : P.underlying t = some (.struct fs)) {parts : List (DataW H)} (h : Light P t (.agg parts)) {j : Nat} {f : Field} {d : DataW H} (hf : fs[j]? = some f) (hd : parts[j]? = some d) : Light P f.type d := fun n hn => by
  refine h n ?_
  simp only [DataW.weights, hu]
  exact DataW.weights_mem_each (j := j) (t := f.type) (by simp [hf]) hd n hn
theorem Light.slice {t e : TypeId} (hu : P.underlying t = some (.slice e)) {elems spare : List (DataW H)} (h : Light P t (.slice elems spare)) {b : Nat} (hb : P.bytesOf e = b) : (elems.length + spare.length) * b ≤ 140737488351232 := by
  have := h ((elems.length + spare.length) * P.bytesOf e) (by simp [DataW.weights, hu])
  rw [hb] at this
  exact this
/-- one field's own reading -/
def FieldAt (enc : TypeId × Value → H) (P : Program) (W : World) (t : TypeId) (v : Value) : Prop := ∃ n y, DataW.trod enc P W 0 (fun _ => true) true n t [v] = some y ∧ Light P t y.1
/-- the slice's elements: so many values each, each field readable -/
theorem arg_fields {t e : TypeId} {fs : Array Field} (ht : P.underlying t = some (.slice e)) (he : P.underlying e = some (.struct fs)) (hone : oneCellFields P fs = true) (hC : P.cellsOf e = fs.size)
    {a : Option Addr} {len cap : Nat} {d : DataW H} {p : List MemPlace} {b0 : Nat} (hv : Value.okWide P W .any b0 t (.slice a len cap)) (h : DataW.Trod enc P W 0 (fun _ => true) true t (.slice a len cap) d p) (hl : Light P t d) :
    len ≤ cap ∧ cap ≤ 9223372036854775807 ∧ ∀ i, i < cap → ∃ vs : List Value, vs.length = fs.size ∧ (∃ b o, a = some ⟨b, o, none⟩ ∧ b < W.heap.size ∧ (0 < fs.size → W.rangeAt b (o + i * fs.size) vs)) ∧ ∀ (j : Nat) (f : Field), fs[j]? = some f → ∃ v, vs[j]? = some v ∧ FieldAt enc P W f.type v := by
  have hform := slice_form ht hv
  obtain ⟨fuel, hf⟩ := h
  rcases open_slice ht hf with ⟨hcs, hx⟩ | ⟨ad, len', cap', m, n, D, Pl, hcs, _, hle, hm, hmm, hx, hi⟩
  · simp [Value.cells] at hcs
    obtain ⟨rfl, rfl, rfl⟩ := hcs
    exact ⟨Nat.le_refl _, by omega, fun i h => absurd h (by omega)⟩
  · simp [Value.cells] at hcs
    obtain ⟨rfl, rfl, rfl⟩ := hcs
    simp only [if_true] at hmm
    subst hmm
    simp only [Prod.mk.injEq] at hx
    refine ⟨hle, hm, fun i him => ?_⟩
    obtain ⟨cs', hc, ht'⟩ := hi i him
    rw [hC] at hc
    obtain ⟨ys, n', hn', hy, hlen, hyl, hg⟩ := DataW.trod_struct he ht'
    obtain ⟨_, hcl, hat⟩ := World.cells?_some hc
    simp only [Prod.mk.injEq] at hy
    have hD : Light P e (D i) := by
      rw [hx.1] at hl
      refine hl.elem ht ?_
      by_cases h1 : i < len
      · exact .inl (List.mem_map.2 ⟨i, List.mem_range.2 h1, rfl⟩)
      · exact .inr (List.mem_map.2 ⟨i - len, List.mem_range.2 (by omega), by rw [show len + (i - len) = i by omega]⟩)
    refine ⟨cs', hcl, ?_, fun j f hj => ?_⟩
    · rcases hform with h0 | ⟨b, o, h1, h2⟩
      · cases h0
      · refine ⟨b, o, h1, h2, fun _ j v hj => ?_⟩
        cases h1
        have hjl : j < fs.size := by have := (List.getElem?_eq_some_iff.1 hj).1; omega
        have h3 := hat j hjl
        rw [Addr.add_mid, Addr.add_mid] at h3
        rw [h3]
        exact hj
    · obtain ⟨ho, hk⟩ := hone_of hone j f hj
      have hjl : j < fs.size := (Array.getElem?_eq_some_iff.1 hj).1
      have hvj : cs'[j]? = some (cs'[j]'(by omega)) := List.getElem?_eq_getElem (by omega)
      have h1 := hg j f hj
      rw [ho, hk] at h1
      have hone' : (cs'.drop j).take 1 = [cs'[j]'(by omega)] := by
        rw [List.drop_eq_getElem_cons (by omega)]
        rfl
      rw [hone'] at h1
      have hys : ys[j]? = some (ys[j]'(by omega)) := List.getElem?_eq_getElem (by omega)
      refine ⟨_, hvj, n', _, h1.trans hys, ?_⟩
      rw [hy.1] at hD
      exact hD.field he hj (by simp [hys])
theorem FieldAt.int {t : TypeId} {k : IntKind} (ht : P.underlying t = some (.int k)) {v : Value} (h : FieldAt enc P W t v) : ∃ x, v = .int k x ∧ (Lit.int k x).wf = true := by
  obtain ⟨n, y, h, _⟩ := h
  obtain ⟨x, h1, _, h3⟩ := DataW.trod_int ht h
  exact ⟨x, by simpa using h1, h3⟩
theorem FieldAt.bool {t : TypeId} (ht : P.underlying t = some .bool) {v : Value} (h : FieldAt enc P W t v) : ∃ x, v = .bool x := by
  obtain ⟨n, y, h, _⟩ := h
  obtain ⟨x, h1, _⟩ := DataW.trod_bool ht h
  exact ⟨x, by simpa using h1⟩
/-- an inner slice -/
structure InRow (W : World) (a : Option Addr) (len cap : Nat) (V : Nat → Value) : Prop where
  le : len ≤ cap
  nil : a = none → cap = 0
  row : IsRow W a cap V
  big : cap ≤ 140737488351232
theorem FieldAt.ints {t e : TypeId} {k : IntKind} (ht : P.underlying t = some (.slice e)) (he : P.underlying e = some (.int k)) (hc : P.cellsOf e = 1) {b : Nat} (hb : P.bytesOf e = b) (hb1 : 1 ≤ b) {v : Value} (h : FieldAt enc P W t v) :
    ∃ (a : Option Addr) (len cap : Nat) (z : Nat → Int), v = .slice a len cap ∧ (∀ i, (Lit.int k (z i)).wf = true) ∧ InRow W a len cap (fun i => .int k (z i)) := by
  obtain ⟨n, y, h, hl⟩ := h
  have hw0 : (Lit.int k 0).wf = true := by cases k <;> decide
  rcases open_ints ht he hc h with ⟨hcs, hx⟩ | ⟨ad, len, cap, zs, hcs, _, hle, hm, hz, hx, hcell, hwz⟩
  · simp at hcs
    subst hcs
    exact ⟨none, 0, 0, fun _ => 0, rfl, fun _ => hw0, ⟨Nat.le_refl _, fun _ => rfl, fun h => absurd h (by omega), by omega⟩⟩
  · simp at hcs
    subst hcs
    simp only [if_true] at hz
    refine ⟨some ad, len, cap, fun i => zs.getD i 0, rfl, fun i => ?_, ⟨hle, (fun h => nomatch h), row_of_cells fun i hi => hcell i (by omega), ?_⟩⟩
    · by_cases hi : i < zs.length
      · have e : zs.getD i 0 = zs[i] := by simp [List.getD, hi]
        simp only [e]; exact hwz _ (List.getElem_mem hi)
      · have e : zs.getD i 0 = 0 := by simp [List.getD, hi]
        simp only [e]; exact hw0
    · rw [show y = _ from hx] at hl
      have := hl.slice ht hb
      simp [lits] at this
      have h2 : cap * 1 ≤ (min len zs.length + (zs.length - len)) * b := Nat.mul_le_mul (by omega) hb1
      omega
theorem FieldAt.bools {t e : TypeId} (ht : P.underlying t = some (.slice e)) (he : P.underlying e = some .bool) (hc : P.cellsOf e = 1) {b : Nat} (hb : P.bytesOf e = b) (hb1 : 1 ≤ b) {v : Value} (h : FieldAt enc P W t v) :
    ∃ (a : Option Addr) (len cap : Nat) (z : Nat → Bool), v = .slice a len cap ∧ InRow W a len cap (fun i => .bool (z i)) := by
  obtain ⟨n, y, h, hl⟩ := h
  rcases open_bools ht he hc h with ⟨hcs, hx⟩ | ⟨ad, len, cap, z, hcs, _, hle, hm, hx, hcell⟩
  · simp at hcs
    subst hcs
    exact ⟨none, 0, 0, fun _ => false, rfl, ⟨Nat.le_refl _, fun _ => rfl, fun h => absurd h (by omega), by omega⟩⟩
  · simp at hcs
    subst hcs
    refine ⟨some ad, len, cap, z, rfl, ⟨hle, (fun h => nomatch h), row_of_cells fun i hi => hcell i ?_, ?_⟩⟩
    · simpa using hi
    · rw [show y = _ from hx] at hl
      have := hl.slice ht hb
      simp at this
      have h2 : cap * 1 ≤ (len + (cap - len)) * b := Nat.mul_le_mul (by omega) hb1
      omega
end
end Go.Proofs.Ytlcedcjcecahoaa
