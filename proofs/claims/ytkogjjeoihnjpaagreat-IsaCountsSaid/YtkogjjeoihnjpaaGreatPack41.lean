/- A slice of structs of one-cell fields that came in: its cells, each field's own reading, and how great what lies behind it may be. No condition. A slice of worlds that came in as an argument: the numbers of each. No condition. -/
import Derived.Test.YtkogjjeoihnjpaaGreatPack6
import Derived.Deep.Slices
import Derived.Deep.Fields
import Derived.Deep.MidRow
import Derived.Test.YtkogjjeoihnjpaaGreatPack40
import Derived.OpenShut
section
set_option linter.unusedVariables false
namespace Go.Proofs.YtkogjjeoihnjpaaGreat
open Go.ChangeShapes Go.WideShapes Go.RowKit Go.Deep
section
variable {H : Type} {enc : TypeId × Value → H} {P : Program} {W : World}
theorem weights_mem_all {e : TypeId} : ∀ {l : List (DataW H)} {d : DataW H}, d ∈ l → ∀ n ∈ d.weights P e, n ∈ DataW.weightsAll P e l
  | d :: r, _, .head _, n, hn => by simp only [DataW.weightsAll, List.mem_append]; exact .inl hn
  | d' :: r, d, .tail _ h, n, hn => by simp only [DataW.weightsAll, List.mem_append]; exact .inr (weights_mem_all h n hn)
/-- how great each part of a datum may be -/
def Light (P : Program) (t : TypeId) (d : DataW H) : Prop := ∀ n ∈ d.weights P t, n ≤ reachBytes
theorem light_arg {ts : List TypeId} {ds : List (DataW H)} (h : (DataW.weightsEach P ts ds).all (· ≤ reachBytes) = true) {j : Nat} {t : TypeId} {d : DataW H} (ht : ts[j]? = some t) (hd : ds[j]? = some d) : Light P t d := fun n hn => by
  have := List.all_eq_true.1 h n (DataW.weights_mem_each ht hd n hn)
  simpa using this
theorem Light.elem {t e : TypeId} (hu : P.underlying t = some (.slice e)) {elems spare : List (DataW H)} (h : Light P t (.slice elems spare)) {d : DataW H} (hd : d ∈ elems ∨ d ∈ spare) : Light P e d := fun n hn => by
  refine h n ?_
  simp only [DataW.weights, hu, List.mem_cons, List.mem_append]
  exact .inr (hd.imp (fun h => weights_mem_all h n hn) (fun h => weights_mem_all h n hn))
theorem Light.field {t : TypeId} {fs : Array Field} (hu : P.underlying t = some (.struct fs)) {parts : List (DataW H)} (h : Light P t (.agg parts)) {j : Nat} {f : Field} {d : DataW H} (hf : fs[j]? = some f) (hd : parts[j]? = some d) : Light P f.type d := fun n hn => by
  refine h n ?_
  simp only [DataW.weights, hu]
  exact DataW.weights_mem_each (j := j) (t := f.type) (by simp [hf]) hd n hn
theorem Light.slice {t e : TypeId} (hu : P.underlying t = some (.slice e)) {elems spare : List (DataW H)} (h : Light P t (.slice elems spare)) {b : Nat} (hb : P.bytesOf e = b) : (elems.length + spare.length) * b ≤ 140737488351232 := by
  have := h ((elems.length + spare.length) * P.bytesOf e) (by simp [DataW.weights, hu])
  rw [hb] at this
  exact this
/-- one field's own reading -/
def FieldAt (enc : TypeId × Value → H) (P : Program) (W : World) (t : TypeId) (v : Value) : Prop := ∃ n y, DataW.trod enc P W 0 (fun _ => true) true n t [v] = some y ∧ Light P t y.1
/-- the slice's elements: so many values each, each field readable -/
theorem arg_fields {t e : TypeId} {fs : Array Field} (ht : P.underlying t = some (.slice e)) (he : P.underlying e = some (.struct fs)) (hone : oneCellFields P fs = true) (hC : P.cellsOf e = fs.size)
    {a : Option Addr} {len cap : Nat} {d : DataW H} {p : List MemPlace} {b0 : Nat} (hv : Value.okWide P W .any b0 t (.slice a len cap)) (h : DataW.Trod enc P W 0 (fun _ => true) true t (.slice a len cap) d p) (hl : Light P t d) :
    len ≤ cap ∧ cap ≤ 9223372036854775807 ∧ ∀ i, i < cap → ∃ vs : List Value, vs.length = fs.size ∧ (∃ b o, a = some ⟨b, o, none⟩ ∧ b < W.heap.size ∧ (0 < fs.size → W.rangeAt b (o + i * fs.size) vs)) ∧ ∀ (j : Nat) (f : Field), fs[j]? = some f → ∃ v, vs[j]? = some v ∧ FieldAt enc P W f.type v := by
  have hform := slice_form ht hv
  obtain ⟨fuel, hf⟩ := h
  rcases open_slice ht hf with ⟨hcs, hx⟩ | ⟨ad, len', cap', m, n, D, Pl, hcs, _, hle, hm, hmm, hx, hi⟩
  · simp [Value.cells] at hcs
    obtain ⟨rfl, rfl, rfl⟩ := hcs
    exact ⟨Nat.le_refl _, by omega, fun i h => absurd h (by omega)⟩
  · simp [Value.cells] at hcs
    obtain ⟨rfl, rfl, rfl⟩ := hcs
    simp only [if_true] at hmm
    subst hmm
    simp only [Prod.mk.injEq] at hx
    refine ⟨hle, hm, fun i him => ?_⟩
    obtain ⟨cs', hc, ht'⟩ := hi i him
    rw [hC] at hc
    obtain ⟨ys, n', hn', hy, hlen, hyl, hg⟩ := DataW.trod_struct he ht'
    obtain ⟨_, hcl, hat⟩ := World.cells?_some hc
    simp only [Prod.mk.injEq] at hy
    have hD : Light P e (D i) := by
      rw [hx.1] at hl
      refine hl.elem ht ?_
      by_cases h1 : i < len
      · exact .inl (List.mem_map.2 ⟨i, List.mem_range.2 h1, rfl⟩)
      · exact .inr (List.mem_map.2 ⟨i - len, List.mem_range.2 (by omega), by rw [show len + (i - len) = i by omega]⟩)
    refine ⟨cs', hcl, ?_, fun j f hj => ?_⟩
    · rcases hform with h0 | ⟨b, o, h1, h2⟩
      · cases h0
      · refine ⟨b, o, h1, h2, fun _ j v hj => ?_⟩
        cases h1
        have hjl : j < fs.size := by have := (List.getElem?_eq_some_iff.1 hj).1; omega
        have h3 := hat j hjl
        rw [Addr.add_mid, Addr.add_mid] at h3
        rw [h3]
        exact hj
    · obtain ⟨ho, hk⟩ := hone_of hone j f hj
      have hjl : j < fs.size := (Array.getElem?_eq_some_iff.1 hj).1
      have hvj : cs'[j]? = some (cs'[j]'(by omega)) := List.getElem?_eq_getElem (by omega)
      have h1 := hg j f hj
      rw [ho, hk] at h1
      have hone' : (cs'.drop j).take 1 = [cs'[j]'(by omega)] := by
        rw [List.drop_eq_getElem_cons (by omega)]
        rfl
      rw [hone'] at h1
      have hys : ys[j]? = some (ys[j]'(by omega)) := List.getElem?_eq_getElem (by omega)
      refine ⟨_, hvj, n', _, h1.trans hys, ?_⟩
      rw [hy.1] at hD
      exact hD.field he hj (by simp [hys])
theorem FieldAt.int {t : TypeId} {k : IntKind} (ht : P.underlying t = some (.int k)) {v : Value} (h : FieldAt enc P W t v) : ∃ x, v = .int k x ∧ (Lit.int k x).wf = true := by
  obtain ⟨n, y, h, _⟩ := h
  obtain ⟨x, h1, _, h3⟩ := DataW.trod_int ht h
  exact ⟨x, by simpa using h1, h3⟩
theorem FieldAt.bool {t : TypeId} (ht : P.underlying t = some .bool) {v : Value} (h : FieldAt enc P W t v) : ∃ x, v = .bool x := by
  obtain ⟨n, y, h, _⟩ := h
  obtain ⟨x, h1, _⟩ := DataW.trod_bool ht h
  exact ⟨x, by simpa using h1⟩
/-- an inner slice -/
structure InRow (W : World) (a : Option Addr) (len cap : Nat) (V : Nat → Value) : Prop where
  le : len ≤ cap
  nil : a = none → cap = 0
  row : IsRow W a cap V
  big : cap ≤ 140737488351232
theorem FieldAt.ints {t e : TypeId} {k : IntKind} (ht : P.underlying t = some (.slice e)) (he : P.underlying e = some (.int k)) (hc : P.cellsOf e = 1) {b : Nat} (hb : P.bytesOf e = b) (hb1 : 1 ≤ b) {v : Value} (h : FieldAt enc P W t v) :
    ∃ (a : Option Addr) (len cap : Nat) (z : Nat → Int), v = .slice a len cap ∧ (∀ i, (Lit.int k (z i)).wf = true) ∧ InRow W a len cap (fun i => .int k (z i)) := by
  obtain ⟨n, y, h, hl⟩ := h
  have hw0 : (Lit.int k 0).wf = true := by cases k <;> decide
  rcases open_ints ht he hc h with ⟨hcs, hx⟩ | ⟨ad, len, cap, zs, hcs, _, hle, hm, hz, hx, hcell, hwz⟩
  · simp at hcs
    subst hcs
    exact ⟨none, 0, 0, fun _ => 0, rfl, fun _ => hw0, ⟨Nat.le_refl _, fun _ => rfl, fun h => absurd h (by omega), by omega⟩⟩
  · simp at hcs
    subst hcs
    simp only [if_true] at hz
    refine ⟨some ad, len, cap, fun i => zs.getD i 0, rfl, fun i => ?_, ⟨hle, (fun h => nomatch h), row_of_cells fun i hi => hcell i (by omega), ?_⟩⟩
    · by_cases hi : i < zs.length
      · have e : zs.getD i 0 = zs[i] := by simp [List.getD, hi]
        simp only [e]; exact hwz _ (List.getElem_mem hi)
      · have e : zs.getD i 0 = 0 := by simp [List.getD, hi]
        simp only [e]; exact hw0
    · rw [show y = _ from hx] at hl
      have := hl.slice ht hb
      simp [lits] at this
      have h2 : cap * 1 ≤ (min len zs.length + (zs.length - len)) * b := Nat.mul_le_mul (by omega) hb1
      omega
theorem FieldAt.bools {t e : TypeId} (ht : P.underlying t = some (.slice e)) (he : P.underlying e = some .bool) (hc : P.cellsOf e = 1) {b : Nat} (hb : P.bytesOf e = b) (hb1 : 1 ≤ b) {v : Value} (h : FieldAt enc P W t v) :
    ∃ (a : Option Addr) (len cap : Nat) (z : Nat → Bool), v = .slice a len cap ∧ InRow W a len cap (fun i => .bool (z i)) := by
  obtain ⟨n, y, h, hl⟩ := h
  rcases open_bools ht he hc h with ⟨hcs, hx⟩ | ⟨ad, len, cap, z, hcs, _, hle, hm, hx, hcell⟩
  · simp at hcs
    subst hcs
    exact ⟨none, 0, 0, fun _ => false, rfl, ⟨Nat.le_refl _, fun _ => rfl, fun h => absurd h (by omega), by omega⟩⟩
  · simp at hcs
    subst hcs
    refine ⟨some ad, len, cap, z, rfl, ⟨hle, (fun h => nomatch h), row_of_cells fun i hi => hcell i ?_, ?_⟩⟩
    · simpa using hi
    · rw [show y = _ from hx] at hl
      have := hl.slice ht hb
      simp at this
      have h2 : cap * 1 ≤ (len + (cap - len)) * b := Nat.mul_le_mul (by omega) hb1
      omega
end
end Go.Proofs.YtkogjjeoihnjpaaGreat
end
section
set_option linter.unusedVariables false
set_option linter.unusedSimpArgs false
namespace Go.Proofs.YtkogjjeoihnjpaaGreat
open Go.ChangeShapes Go.WideShapes Go.ChangeAt Go.RowKit Go.Deep Sx
set_option maxRecDepth 100000
section
variable {H : Type} {enc : TypeId × Value → H}
def bN (b : Bool) : Int := if b then 1 else 0
theorem bN_V (b : Bool) : Value.bool b = ckV .b (bN b) := by cases b <;> rfl
theorem get_some {α : Type} {l : List α} {n i : Nat} (h : l.length = n) (hi : i < n) : ∃ x, l[i]? = some x := ⟨l[i]'(by omega), by simp [h, hi]⟩
theorem env_form {w : World} {fuel : Nat} {cs : List Value} {y : DataW H × List MemPlace} (h : DataW.trod enc Tryz.prog w 0 (fun _ => true) true fuel 38 cs = some y) : ∃ ev, InB envR ev ∧ cs = cksV envC ev := by
  obtain ⟨ys, n, _, _, hlen, hyl, hg⟩ := DataW.trod_struct Tryz.underlying38 h
  have hc : Tryz.prog.cellsOf 38 = 10 := by kernel_rfl
  rw [hc] at hlen
  match cs, hlen with
  | [c0, c1, c2, c3, c4, c5, c6, c7, c8, c9], _ =>
    have u1 : Tryz.prog.cellsOf 27 = 1 := by kernel_rfl
    have u2 : Tryz.prog.cellsOf 4 = 1 := by kernel_rfl
    have u4 : Tryz.prog.cellsOf 36 = 4 := by kernel_rfl
    have hyl : ys.length = 7 := hyl
    obtain ⟨y0, e0⟩ := get_some hyl (i := 0) (by omega)
    obtain ⟨y1, e1⟩ := get_some hyl (i := 1) (by omega)
    obtain ⟨y2, e2⟩ := get_some hyl (i := 2) (by omega)
    obtain ⟨y3, e3⟩ := get_some hyl (i := 3) (by omega)
    obtain ⟨y4, e4⟩ := get_some hyl (i := 4) (by omega)
    obtain ⟨y5, e5⟩ := get_some hyl (i := 5) (by omega)
    obtain ⟨y6, e6⟩ := get_some hyl (i := 6) (by omega)
    have g0 : DataW.trod enc Tryz.prog w 0 (fun _ => true) true n 27 (([c0, c1, c2, c3, c4, c5, c6, c7, c8, c9].drop 0).take (Tryz.prog.cellsOf 27)) = some y0 := (hg 0 _ rfl).trans e0
    rw [u1] at g0
    have g1 : DataW.trod enc Tryz.prog w 0 (fun _ => true) true n 27 (([c0, c1, c2, c3, c4, c5, c6, c7, c8, c9].drop 1).take (Tryz.prog.cellsOf 27)) = some y1 := (hg 1 _ rfl).trans e1
    rw [u1] at g1
    have g2 : DataW.trod enc Tryz.prog w 0 (fun _ => true) true n 27 (([c0, c1, c2, c3, c4, c5, c6, c7, c8, c9].drop 2).take (Tryz.prog.cellsOf 27)) = some y2 := (hg 2 _ rfl).trans e2
    rw [u1] at g2
    have g3 : DataW.trod enc Tryz.prog w 0 (fun _ => true) true n 36 (([c0, c1, c2, c3, c4, c5, c6, c7, c8, c9].drop 3).take (Tryz.prog.cellsOf 36)) = some y3 := (hg 3 _ rfl).trans e3
    rw [u4] at g3
    have g4 : DataW.trod enc Tryz.prog w 0 (fun _ => true) true n 4 (([c0, c1, c2, c3, c4, c5, c6, c7, c8, c9].drop 7).take (Tryz.prog.cellsOf 4)) = some y4 := (hg 4 _ rfl).trans e4
    rw [u2] at g4
    have g5 : DataW.trod enc Tryz.prog w 0 (fun _ => true) true n 27 (([c0, c1, c2, c3, c4, c5, c6, c7, c8, c9].drop 8).take (Tryz.prog.cellsOf 27)) = some y5 := (hg 5 _ rfl).trans e5
    rw [u1] at g5
    have g6 : DataW.trod enc Tryz.prog w 0 (fun _ => true) true n 4 (([c0, c1, c2, c3, c4, c5, c6, c7, c8, c9].drop 9).take (Tryz.prog.cellsOf 4)) = some y6 := (hg 6 _ rfl).trans e6
    rw [u2] at g6
    simp only [List.drop_zero, List.drop_succ_cons, List.take_succ_cons, List.take_zero] at g0 g1 g2 g3 g4 g5 g6
    obtain ⟨x0, q0, _, w0⟩ := DataW.trod_int Tryz.underlying27 g0
    obtain ⟨x1, q1, _, w1⟩ := DataW.trod_int Tryz.underlying27 g1
    obtain ⟨x2, q2, _, w2⟩ := DataW.trod_int Tryz.underlying27 g2
    obtain ⟨b7, q7, _⟩ := DataW.trod_bool Tryz.underlying4 g4
    obtain ⟨x8, q8, _, w8⟩ := DataW.trod_int Tryz.underlying27 g5
    obtain ⟨b9, q9, _⟩ := DataW.trod_bool Tryz.underlying4 g6
    obtain ⟨zs, m, _, _, _, hzl, hz⟩ := DataW.trod_array Tryz.underlying36 g3
    obtain ⟨z0, k0⟩ := get_some hzl (i := 0) (by omega)
    obtain ⟨z1, k1⟩ := get_some hzl (i := 1) (by omega)
    obtain ⟨z2, k2⟩ := get_some hzl (i := 2) (by omega)
    obtain ⟨z3, k3⟩ := get_some hzl (i := 3) (by omega)
    have p0 := (hz 0 (by omega)).trans k0
    have p1 := (hz 1 (by omega)).trans k1
    have p2 := (hz 2 (by omega)).trans k2
    have p3 := (hz 3 (by omega)).trans k3
    simp only [u1, Nat.zero_mul, Nat.one_mul, Nat.mul_one, List.drop_zero, List.drop_succ_cons, List.take_succ_cons, List.take_zero] at p0 p1 p2 p3
    obtain ⟨x3, q3, _, w3⟩ := DataW.trod_int Tryz.underlying27 p0
    obtain ⟨x4, q4, _, w4⟩ := DataW.trod_int Tryz.underlying27 p1
    obtain ⟨x5, q5, _, w5⟩ := DataW.trod_int Tryz.underlying27 p2
    obtain ⟨x6, q6, _, w6⟩ := DataW.trod_int Tryz.underlying27 p3
    simp only [List.cons.injEq, and_true] at q0 q1 q2 q3 q4 q5 q6 q7 q8 q9
    subst q0 q1 q2 q3 q4 q5 q6 q7 q8 q9
    have hb : ∀ b, 0 ≤ bN b ∧ bN b ≤ 1 := fun b => by cases b <;> decide
    refine ⟨[x0, x1, x2, x3, x4, x5, x6, bN b7, x8, bN b9], inBb_ok ?_, ?_⟩
    · simp only [inBb, envR, Bool.and_eq_true, decide_eq_true_eq]
      have := wf_u64' w0; have := wf_u64' w1; have := wf_u64' w2; have := wf_u64' w3; have := wf_u64' w4; have := wf_u64' w5; have := wf_u64' w6; have := wf_u64' w8
      have := hb b7; have := hb b9
      simp only [Int.ofNat_eq_natCast]
      refine ⟨⟨?_, ?_⟩, ⟨?_, ?_⟩, ⟨?_, ?_⟩, ⟨?_, ?_⟩, ⟨?_, ?_⟩, ⟨?_, ?_⟩, ⟨?_, ?_⟩, ⟨?_, ?_⟩, ⟨?_, ?_⟩, ⟨?_, ?_⟩, trivial⟩ <;> omega
    · simp only [cksV, envC, List.headD_cons, List.tail_cons, ← bN_V]
      rfl
theorem arg_envs {W : World} {a : Option Addr} {len cap : Nat} {d : DataW H} {p : List MemPlace} {b0 : Nat} (hv : Value.okWide Tryz.prog W .any b0 23 (.slice a len cap)) (h : DataW.Trod enc Tryz.prog W 0 (fun _ => true) true 23 (.slice a len cap) d p) :
    len ≤ cap ∧ cap ≤ 9223372036854775807 ∧ ∃ evs, EnvRow W a cap evs := by
  have ht := Tryz.underlying23
  have hC : Tryz.prog.cellsOf 38 = 10 := by kernel_rfl
  have hform := slice_form ht hv
  obtain ⟨fuel, hf⟩ := h
  rcases open_slice ht hf with ⟨hcs, hx⟩ | ⟨ad, len', cap', m, n, D, Pl, hcs, _, hle, hm, hmm, hx, hi⟩
  · simp [Value.cells] at hcs
    obtain ⟨rfl, rfl, rfl⟩ := hcs
    exact ⟨Nat.le_refl _, by omega, fun _ => [], fun i h => absurd h (by omega)⟩
  · simp [Value.cells] at hcs
    obtain ⟨rfl, rfl, rfl⟩ := hcs
    simp only [if_true] at hmm
    subst hmm
    refine ⟨hle, hm, choose_lt (α := List Int) (p := fun i ev => InB envR ev ∧ ∃ b o, (some ad : Option Addr) = some ⟨b, o, none⟩ ∧ b < W.heap.size ∧ W.rangeAt b (o + i * 10) (cksV envC ev)) fun i him => ?_⟩
    obtain ⟨cs', hc, ht'⟩ := hi i him
    rw [hC] at hc
    obtain ⟨ev, h1, rfl⟩ := env_form ht'
    obtain ⟨_, hcl, hat⟩ := World.cells?_some hc
    refine ⟨ev, h1, ?_⟩
    rcases hform with h0 | ⟨b, o, h1, h2⟩
    · cases h0
    · refine ⟨b, o, h1, h2, fun j v hj => ?_⟩
      cases h1
      have hjl : j < 10 := by have := (List.getElem?_eq_some_iff.1 hj).1; omega
      have h3 := hat j hjl
      rw [Addr.add_mid, Addr.add_mid] at h3
      rw [h3]
      exact hj
end
end Go.Proofs.YtkogjjeoihnjpaaGreat
end
