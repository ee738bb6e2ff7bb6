/- The script's operations on memory as they came in. No condition. -/
import Derived.Test.YtebdbbpefmgooaaArgs7
import Derived.Test.YtebdbbpefmgooaaRamForkW
set_option linter.unusedVariables false
set_option linter.unusedSimpArgs false
namespace Go.Proofs.Ytebdbbpefmgooaa
open Go.ChangeShapes Go.WideShapes Go.RowKit Go.Deep
/-- one operation of the script -/
structure RamOp where
  kd : Int
  k : Int
  x : Int
  raw : Bool
  a : Option Addr
  l : Nat
  ca : Nat
  a2 : Option Addr
  l2 : Nat
  ca2 : Nat
  v : Int
  V : Nat → Int
  Z : Nat → Bool
instance : Inhabited RamOp := ⟨⟨0, 0, 0, false, none, 0, 0, none, 0, 0, 0, fun _ => 0, fun _ => false⟩⟩
def RamOp.vals (o : RamOp) : List Value := [.int .i64 o.kd, .int .i64 o.k, .int .u64 o.x, .bool o.raw, .slice o.a o.l o.ca, .slice o.a2 o.l2 o.ca2, .int .u64 o.v]
structure RamOp.Ok (W : World) (o : RamOp) : Prop where
  x : 0 ≤ o.x ∧ o.x < 18446744073709551616
  v : 0 ≤ o.v ∧ o.v < 18446744073709551616
  V : ∀ i, 0 ≤ o.V i ∧ o.V i ≤ 255
  row : InRow W o.a o.l o.ca (fun i => .int .u8 (o.V i))
  row2 : InRow W o.a2 o.l2 o.ca2 (fun i => .bool (o.Z i))
def RamOps (W : World) (a : Option Addr) (len : Nat) (z : Nat → RamOp) : Prop := ∀ i, i < len → (z i).Ok W ∧ ∃ b o, a = some ⟨b, o, none⟩ ∧ b < W.heap.size ∧ W.rangeAt b (o + i * 7) (z i).vals
set_option maxRecDepth 100000 in
theorem arg_ramops {H : Type} {enc : TypeId × Value → H} {W : World} {a : Option Addr} {len cap : Nat} {d : DataW H} {p : List MemPlace} {b0 : Nat} (hv : Value.okWide Try.prog W .any b0 86 (.slice a len cap)) (h : DataW.Trod enc Try.prog W 0 (fun _ => true) true 86 (.slice a len cap) d p) (hl : Light Try.prog 86 d) :
    len ≤ cap ∧ cap ≤ 9223372036854775807 ∧ ∃ z : Nat → RamOp, RamOps W a cap z := by
  obtain ⟨h1, h2, h3⟩ := arg_fields Try.underlying86 Try.underlying91 (by kernel_rfl) (by kernel_rfl) hv h hl
  refine ⟨h1, h2, choose_lt (α := RamOp) (p := fun i z => z.Ok W ∧ ∃ b o, a = some ⟨b, o, none⟩ ∧ b < W.heap.size ∧ W.rangeAt b (o + i * 7) z.vals) fun i hi => ?_⟩
  obtain ⟨vs, hlen, ⟨b, o, e, hlt, hr⟩, hf⟩ := h3 i hi
  have hr := hr (by decide)
  match vs, hlen, hr, hf with
  | [c0, c1, c2, c3, c4, c5, c6], _, hr, hf =>
    obtain ⟨v0, g0, f0⟩ := hf 0 _ rfl
    obtain ⟨v1, g1, f1⟩ := hf 1 _ rfl
    obtain ⟨v2, g2, f2⟩ := hf 2 _ rfl
    obtain ⟨v3, g3, f3⟩ := hf 3 _ rfl
    obtain ⟨v4, g4, f4⟩ := hf 4 _ rfl
    obtain ⟨v5, g5, f5⟩ := hf 5 _ rfl
    obtain ⟨v6, g6, f6⟩ := hf 6 _ rfl
    simp only [List.getElem?_cons_zero, List.getElem?_cons_succ, Option.some.injEq] at g0 g1 g2 g3 g4 g5 g6
    subst g0 g1 g2 g3 g4 g5 g6
    obtain ⟨x0, rfl, w0⟩ := f0.int Try.underlying3
    obtain ⟨x1, rfl, w1⟩ := f1.int Try.underlying3
    obtain ⟨x2, rfl, w2⟩ := f2.int Try.underlying22
    obtain ⟨x3, rfl⟩ := f3.bool Try.underlying4
    obtain ⟨a4, l4, k4, z4, rfl, w4, r4⟩ := f4.ints Try.underlying23 Try.underlying5 (by kernel_rfl) (b := 1) (by kernel_rfl) (by omega)
    obtain ⟨a5, l5, k5, z5, rfl, r5⟩ := f5.bools Try.underlying82 Try.underlying4 (by kernel_rfl) (b := 1) (by kernel_rfl) (by omega)
    obtain ⟨x6, rfl, w6⟩ := f6.int Try.underlying22
    have q2 := wf_u64' w2
    have q6 := wf_u64' w6
    exact ⟨⟨x0, x1, x2, x3, a4, l4, k4, a5, l5, k5, x6, z4, z5⟩, ⟨⟨q2.1, by show x2 < _; omega⟩, ⟨q6.1, by show x6 < _; omega⟩, fun i => wf_u8' (w4 i), r4, r5⟩, b, o, e, hlt, hr⟩
theorem InRow.lt {W : World} {a : Option Addr} {len cap : Nat} {V : Nat → Value} (h : InRow W a len cap V) (h0 : 0 < len) : ∀ b o s, a = some ⟨b, o, s⟩ → b < W.heap.size := by
  intro b o s e
  obtain ⟨b', o', e', hlt, _⟩ := h.row (by have := h.le; omega)
  rw [e] at e'
  cases e'
  exact hlt
end Go.Proofs.Ytebdbbpefmgooaa
