/- A struct that came in by value, with structs and arrays in it: its cells as numbers. No condition. Harts and worlds that came in by value, as numbers. No condition. -/
import Derived.Test.YtkogjjeoihnjpaaGreatPack4
import Derived.Test.YtkogjjeoihnjpaaGreatPack36
import Derived.OpenShut
import Derived.Test.YtkogjjeoihnjpaaGreatPack48
import Derived.KernelRfl
section
set_option linter.unusedVariables false
set_option linter.unusedSimpArgs false
namespace Go.Proofs.YtkogjjeoihnjpaaGreat
open Go.ChangeShapes Go.WideShapes Go.ChangeAt Go.RowKit Sx
set_option maxRecDepth 100000
def ckR : CK → Int × Int
  | .i k => (kLo k, kHi k)
  | .b => (0, 1)
section
variable (P : Program)
def flatFs (ft : TypeId → Option (List CK)) : List Field → Nat → Option (List CK)
  | [], _ => some []
  | f :: r, o => if f.offset = o then (match ft f.type with
    | some ks => if ks.length = P.cellsOf f.type then (match flatFs ft r (o + ks.length) with
      | some rest => some (ks ++ rest)
      | none => none) else none
    | none => none) else none
def flatT : Nat → TypeId → Option (List CK)
  | 0, _ => none
  | d + 1, t => match P.underlying t with
    | some (.int k) => some [.i k]
    | some .bool => some [.b]
    | some (.struct fs) => flatFs P (flatT d) fs.toList 0
    | some (.array n e) => (match flatT d e with
      | some ks => if ks.length = P.cellsOf e then some (List.replicate n ks).flatten else none
      | none => none)
    | _ => none
end
theorem cksV_app : ∀ (a b : List CK) (l l' : List Int), l.length = a.length → cksV (a ++ b) (l ++ l') = cksV a l ++ cksV b l'
  | [], b, l, l', h => by
    have : l = [] := List.length_eq_zero_iff.1 h
    subst this; rfl
  | c :: a, b, [], l', h => by simp at h
  | c :: a, b, x :: l, l', h => by
    simp only [List.cons_append, cksV, List.headD_cons, List.tail_cons]
    rw [cksV_app a b l l' (by simpa using h)]
theorem inB_app {rs rs' : List (Int × Int)} {l l' : List Int} (h : InB rs l) (h' : InB rs' l') : InB (rs ++ rs') (l ++ l') := by
  refine ⟨by simp [h.1, h'.1], fun j q m hj hm => ?_⟩
  by_cases hl : j < rs.length
  · rw [List.getElem?_append_left hl] at hj
    rw [List.getElem?_append_left (by rw [h.1]; exact hl)] at hm
    exact h.2 j q m hj hm
  · rw [List.getElem?_append_right (by omega)] at hj
    rw [List.getElem?_append_right (by rw [h.1]; omega)] at hm
    rw [h.1] at hm
    exact h'.2 (j - rs.length) q m hj hm
theorem inB_one {l u n : Int} (h : l ≤ n ∧ n ≤ u) : InB [(l, u)] [n] := ⟨rfl, fun j r m hj hm => by
  cases j with
  | zero => simp at hj hm; subst hj; subst hm; exact h
  | succ j => simp at hj⟩
theorem wf_rng {k : IntKind} {n : Int} (h : (Lit.int k n).wf = true) : kLo k ≤ n ∧ n ≤ kHi k := by
  cases k <;> simpa [Lit.wf, IntKind.min, IntKind.max, IntKind.signed, IntKind.bits, kLo, kHi] using h
section
variable {P : Program} {H : Type} {enc : TypeId × Value → H} {w : World} {base : Nat}
theorem flat_ok : ∀ (d : Nat) {t : TypeId} {ks : List CK}, flatT P d t = some ks → P.cellsOf t = ks.length → ∀ {fuel : Nat} {cs : List Value} {x : DataW H × List MemPlace}, DataW.trod enc P w base (fun _ => true) true fuel t cs = some x → ∃ l, InB (ks.map ckR) l ∧ cs = cksV ks l
  | 0, t, ks, h, _, fuel, cs, x, hx => by simp [flatT] at h
  | d + 1, t, ks, h, hc, fuel, cs, x, hx => by
    have ih := @flat_ok d
    unfold flatT at h
    split at h
    · rename_i k hu
      cases h
      obtain ⟨n, rfl, _, hw⟩ := DataW.trod_int hu hx
      exact ⟨[n], inB_one (wf_rng hw), rfl⟩
    · rename_i hu
      cases h
      obtain ⟨b, rfl, _⟩ := DataW.trod_bool hu hx
      refine ⟨[if b then 1 else 0], inB_one (by cases b <;> simp), ?_⟩
      cases b <;> rfl
    · rename_i fs hu
      obtain ⟨ys, n, _, _, hlen, hyl, hg⟩ := DataW.trod_struct hu hx
      have key : ∀ (r : List Field) (o : Nat) (kss : List CK), flatFs P (flatT P d) r o = some kss → (∀ f ∈ r, ∃ y, DataW.trod enc P w base (fun _ => true) true n f.type ((cs.drop f.offset).take (P.cellsOf f.type)) = some y) → ∃ l, InB (kss.map ckR) l ∧ (cs.drop o).take kss.length = cksV kss l := by
        intro r
        induction r with
        | nil => intro o kss hk _; simp only [flatFs, Option.some.injEq] at hk; subst hk; exact ⟨[], ⟨rfl, fun j r m hj => by simp at hj⟩, by simp [cksV]⟩
        | cons f r ihr =>
          intro o kss hk hf
          unfold flatFs at hk
          split at hk
          · rename_i ho
            split at hk
            · rename_i k1 hk1
              split at hk
              · rename_i hl1
                split at hk
                · rename_i rest hrest
                  cases hk
                  obtain ⟨y, hy⟩ := hf f List.mem_cons_self
                  obtain ⟨l1, a1, a2⟩ := ih hk1 hl1.symm hy
                  obtain ⟨l2, b1, b2⟩ := ihr (o + k1.length) rest hrest fun g hg => hf g (List.mem_cons_of_mem _ hg)
                  have hll : l1.length = k1.length := by have := a1.1; simpa using this
                  refine ⟨l1 ++ l2, by rw [List.map_append]; exact inB_app a1 b1, ?_⟩
                  rw [cksV_app _ _ _ _ hll, ← a2, ← b2, ← hl1, ho, List.length_append, List.take_add, List.drop_drop]
                · cases hk
              · cases hk
            · cases hk
          · cases hk
      obtain ⟨l, a1, a2⟩ := key fs.toList 0 ks h fun f hf => by
        obtain ⟨i, hi⟩ := List.mem_iff_getElem?.1 hf
        have hi' : fs[i]? = some f := by rw [← Array.getElem?_toList]; exact hi
        have hlt : i < ys.length := by rw [hyl]; exact (Array.getElem?_eq_some_iff.1 hi').1
        exact ⟨ys[i], (hg i f hi').trans (List.getElem?_eq_getElem hlt)⟩
      refine ⟨l, a1, ?_⟩
      rw [← a2, List.drop_zero, List.take_of_length_le (by omega)]
    · rename_i m e hu
      split at h
      · rename_i k1 hk1
        split at h
        · rename_i hl1
          cases h
          obtain ⟨ys, n, _, _, hlen, hyl, hg⟩ := DataW.trod_array hu hx
          have key : ∀ j, j ≤ m → ∃ l, InB ((List.replicate j k1).flatten.map ckR) l ∧ cs.take (j * k1.length) = cksV (List.replicate j k1).flatten l := by
            intro j
            induction j with
            | zero => intro _; exact ⟨[], ⟨rfl, fun j r m hj => by simp at hj⟩, by simp [cksV]⟩
            | succ j ihj =>
              intro hj
              obtain ⟨l1, a1, a2⟩ := ihj (by omega)
              have hlt : j < ys.length := by omega
              have hy := (hg j (by omega)).trans (List.getElem?_eq_getElem hlt)
              rw [← hl1] at hy
              obtain ⟨l2, b1, b2⟩ := ih hk1 hl1.symm hy
              have hrep : (List.replicate (j + 1) k1).flatten = (List.replicate j k1).flatten ++ k1 := by
                rw [List.replicate_succ', List.flatten_append]; simp
              have hll : l1.length = (List.replicate j k1).flatten.length := by have := a1.1; simpa using this
              refine ⟨l1 ++ l2, by rw [hrep, List.map_append]; exact inB_app a1 b1, ?_⟩
              rw [hrep, cksV_app _ _ _ _ hll, ← a2, ← b2, Nat.succ_mul, List.take_add]
          obtain ⟨l, a1, a2⟩ := key m (Nat.le_refl _)
          refine ⟨l, a1, ?_⟩
          rw [← a2, List.take_of_length_le]
          rw [hlen, hc]
          simp
        · cases h
      · cases h
    · cases h
end
end Go.Proofs.YtkogjjeoihnjpaaGreat
end
section
set_option linter.unusedVariables false
namespace Go.Proofs.YtkogjjeoihnjpaaGreat
open Go.ChangeShapes Go.WideShapes Go.ChangeAt Go.RowKit Sx
set_option maxRecDepth 100000
def hartZ : Array Value := (cksV hartC (List.replicate 66 0)).toArray
def envZ : Array Value := (cksV envC (List.replicate 10 0)).toArray
theorem flatHart : (match flatT Tryz.prog 10 43 with | some ks => decide (ks = hartC) | none => false) = true := by kernel_rfl
theorem flatEnv : (match flatT Tryz.prog 10 38 with | some ks => decide (ks = envC) | none => false) = true := by kernel_rfl
theorem flat_of {T : TypeId} {cs : List CK} (h : (match flatT Tryz.prog 10 T with | some ks => decide (ks = cs) | none => false) = true) : flatT Tryz.prog 10 T = some cs := by
  split at h
  · rename_i ks hk; rw [hk, of_decide_eq_true h]
  · cases h
section
variable {H : Type} {enc : TypeId × Value → H} {W : World}
theorem arg_flat {T : TypeId} {fs : Array Field} {cs : List CK} (ht : Tryz.prog.underlying T = some (.struct fs)) (hf : flatT Tryz.prog 10 T = some cs) (hc : Tryz.prog.cellsOf T = cs.length) {v : Value} {d : DataW H} {p : List MemPlace} {b0 : Nat} (hv : Value.okWide Tryz.prog W .any b0 T v) (h : DataW.Trod enc Tryz.prog W 0 (fun _ => true) true T v d p) :
    ∃ l, InB (cs.map ckR) l ∧ v = .agg (cksV cs l).toArray := by
  obtain ⟨xs, rfl, hsz⟩ := okWide_struct ht hv
  obtain ⟨fuel, h'⟩ := h
  obtain ⟨l, h1, h2⟩ := flat_ok 10 hf hc h'
  refine ⟨l, h1, ?_⟩
  rw [← h2]
  simp [Value.cells]
end
end Go.Proofs.YtkogjjeoihnjpaaGreat
end
