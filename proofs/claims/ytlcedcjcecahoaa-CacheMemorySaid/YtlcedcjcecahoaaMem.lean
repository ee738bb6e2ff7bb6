/- A cache over memory, plainly: what each step keeps; the script as it came in. No condition. -/
import Derived.Test.YtlcedcjcecahoaaDirty
import Derived.Test.YtlcedcjcecahoaaCacheLineW
import Derived.Test.YtlcedcjcecahoaaArgs7
set_option linter.unusedVariables false
set_option linter.unusedSimpArgs false
namespace Go.Proofs.Ytlcedcjcecahoaa
open Go.ChangeShapes Go.WideShapes Go.RowKit Go.Deep
/-! the script -/
structure CacheOp where
  kd : Int
  pa : Int
  sz : Int
  v : Int
  bad : Bool
instance : Inhabited CacheOp := ⟨⟨0, 0, 0, 0, false⟩⟩
def CacheOp.vals (o : CacheOp) : List Value := [.int .i64 o.kd, .int .u64 o.pa, .int .i64 o.sz, .int .u64 o.v, .bool o.bad]
structure CacheOp.Ok (o : CacheOp) : Prop where
  pa : 0 ≤ o.pa ∧ o.pa < 18446744073709551616
  v : 0 ≤ o.v ∧ o.v < 18446744073709551616
def CacheOps (W : World) (a : Option Addr) (len : Nat) (z : Nat → CacheOp) : Prop := ∀ i, i < len → (z i).Ok ∧ ∃ b o, a = some ⟨b, o, none⟩ ∧ b < W.heap.size ∧ W.rangeAt b (o + i * 5) (z i).vals
set_option maxRecDepth 100000 in
theorem arg_cacheops {H : Type} {enc : TypeId × Value → H} {W : World} {a : Option Addr} {len cap : Nat} {d : DataW H} {p : List MemPlace} {b0 : Nat} (hv : Value.okWide Try.prog W .any b0 44 (.slice a len cap)) (h : DataW.Trod enc Try.prog W 0 (fun _ => true) true 44 (.slice a len cap) d p) (hl : Light Try.prog 44 d) :
    len ≤ cap ∧ cap ≤ 9223372036854775807 ∧ ∃ z : Nat → CacheOp, CacheOps W a cap z := by
  obtain ⟨h1, h2, h3⟩ := arg_fields Try.underlying44 Try.underlying47 (by kernel_rfl) (by kernel_rfl) hv h hl
  refine ⟨h1, h2, choose_lt (α := CacheOp) (p := fun i z => z.Ok ∧ ∃ b o, a = some ⟨b, o, none⟩ ∧ b < W.heap.size ∧ W.rangeAt b (o + i * 5) z.vals) fun i hi => ?_⟩
  obtain ⟨vs, hlen, ⟨b, o, e, hlt, hr⟩, hf⟩ := h3 i hi
  have hr := hr (by decide)
  match vs, hlen, hr, hf with
  | [c0, c1, c2, c3, c4], _, hr, hf =>
    obtain ⟨v0, g0, f0⟩ := hf 0 _ rfl
    obtain ⟨v1, g1, f1⟩ := hf 1 _ rfl
    obtain ⟨v2, g2, f2⟩ := hf 2 _ rfl
    obtain ⟨v3, g3, f3⟩ := hf 3 _ rfl
    obtain ⟨v4, g4, f4⟩ := hf 4 _ rfl
    simp only [List.getElem?_cons_zero, List.getElem?_cons_succ, Option.some.injEq] at g0 g1 g2 g3 g4
    subst g0 g1 g2 g3 g4
    obtain ⟨x0, rfl, w0⟩ := f0.int Try.underlying3
    obtain ⟨x1, rfl, w1⟩ := f1.int Try.underlying22
    obtain ⟨x2, rfl, w2⟩ := f2.int Try.underlying3
    obtain ⟨x3, rfl, w3⟩ := f3.int Try.underlying22
    obtain ⟨x4, rfl⟩ := f4.bool Try.underlying4
    have q1 := wf_u64' w1
    have q3 := wf_u64' w3
    exact ⟨⟨x0, x1, x2, x3, x4⟩, ⟨⟨q1.1, by show x1 < _; omega⟩, ⟨q3.1, by show x3 < _; omega⟩⟩, b, o, e, hlt, hr⟩
/-! a cache over memory -/
def overL (M : Nat → Int) (l : CLine) : Nat → Int := fun x => if l.tag.toNat ≤ x ∧ x < l.tag.toNat + 64 then l.data (x - l.tag.toNat) else M x
structure MemInv (n m : Nat) (L : Nat → Nat → CLine) (M T : Nat → Int) : Prop where
  bdM : ∀ a, 0 ≤ M a ∧ M a ≤ 255
  bdT : ∀ a, 0 ≤ T a ∧ T a ≤ 255
  place : ∀ s i, s < n → i < m → (L s i).v = true → ∃ k : Nat, k < 32 ∧ (L s i).tag = (k * 64 : Nat) ∧ setOf n (L s i).tag = s
  one : ∀ s i j, s < n → i < m → j < m → (L s i).v = true → (L s j).v = true → (L s i).tag = (L s j).tag → i = j
  here : ∀ s i, s < n → i < m → (L s i).v = true → ∀ q, q < 64 → (L s i).data q = T ((L s i).tag.toNat + q)
  clean : ∀ s i, s < n → i < m → (L s i).v = true → (L s i).d = false → ∀ q, q < 64 → M ((L s i).tag.toNat + q) = T ((L s i).tag.toNat + q)
  away : ∀ k : Nat, k < 32 → (∀ s i, s < n → i < m → (L s i).v = true → (L s i).tag ≠ (k * 64 : Nat)) → ∀ q, q < 64 → M (k * 64 + q) = T (k * 64 + q)
theorem MemInv.start (n m : Nat) : MemInv n m (fun _ _ => CLine.zero) (fun _ => 0) (fun _ => 0) :=
  ⟨fun _ => by omega, fun _ => by omega, fun _ _ _ _ h => (nomatch h), fun _ _ _ _ _ _ h => (nomatch h), fun _ _ _ _ h => (nomatch h), fun _ _ _ _ h => (nomatch h), fun _ _ _ _ _ => rfl⟩
theorem isLine_iff {x : Int} {l : CLine} : isLine x l = true ↔ l.v = true ∧ l.tag = lbase x := by simp [isLine]
theorem lbase_k {a : Int} {k : Nat} (h : a / 64 = k) : lbase a = (k * 64 : Nat) := by unfold lbase; omega
theorem setOf_k (n : Nat) {a : Int} {k : Nat} (h : a / 64 = k) : setOf n (k * 64 : Nat) = setOf n a := setOf_same (by omega) n
/-- a line of that address lies in its set alone -/
theorem MemInv.only {n m : Nat} {L : Nat → Nat → CLine} {M T : Nat → Int} (h : MemInv n m L M T) {a : Int} {k : Nat} (ha : a / 64 = k) {s i : Nat} (hs : s < n) (hi : i < m) (hv : (L s i).v = true) (ht : (L s i).tag = (k * 64 : Nat)) : s = setOf n a ∧ isLine a (L s i) = true := by
  obtain ⟨_, _, _, h3⟩ := h.place s i hs hi hv
  refine ⟨?_, isLine_iff.2 ⟨hv, by rw [ht, lbase_k ha]⟩⟩
  rw [← h3, ht, setOf_k n ha]
theorem MemInv.read {n m : Nat} {L : Nat → Nat → CLine} {M T : Nat → Int} (h : MemInv n m L M T) {a : Int} (h0 : 0 ≤ a) (h1 : a < 2048) (hn : Sets n) {i : Nat} (hi : i < m) (hl : isLine a (L (setOf n a) i) = true) : (L (setOf n a) i).data (a % 64).toNat = T a.toNat := by
  obtain ⟨hv, ht⟩ := isLine_iff.1 hl
  rw [h.here _ i (setOf_lt hn a) hi hv _ (by omega), ht]
  congr 1
  unfold lbase
  omega
theorem MemInv.fill {n m : Nat} {L : Nat → Nat → CLine} {M T : Nat → Int} (h : MemInv n m L M T) (hn : Sets n) {a : Int} {k : Nat} (ha : a / 64 = k) (hk : k < 32) (hno : wayI m (L (setOf n a)) a = -1) {i : Nat} (hi : i < m) {M' : Nat → Int}
    (hM : M' = if ((L (setOf n a) i).v && (L (setOf n a) i).d) = true then overL M (L (setOf n a) i) else M) :
    MemInv n m (upS2 L (setOf n a) i (newL a (fun q => M (k * 64 + q)))) M' T := by
  have hs := setOf_lt hn a
  generalize hse : setOf n a = s at *
  have hnl : ∀ j, j < m → isLine a (L s j) = false := by
    rcases wayI_cases m (L s) a with ⟨_, h2⟩ | ⟨j, _, e, _⟩
    · exact h2
    · omega
  -- what memory has become
  have hov : ∀ x, M' x = M x ∨ (x < 2048 ∧ M' x = T x) := fun x => by
    rw [hM]
    split
    · rename_i hvd
      simp at hvd
      obtain ⟨k2, h2, h3, _⟩ := h.place s i hs hi hvd.1
      unfold overL
      by_cases hx : (L s i).tag.toNat ≤ x ∧ x < (L s i).tag.toNat + 64
      · right
        rw [if_pos hx, h.here s i hs hi hvd.1 _ (by omega)]
        exact ⟨by rw [h3] at hx; omega, by congr 1; omega⟩
      · left; rw [if_neg hx]
    · exact .inl rfl
  have hold : (L s i).v = true → ∀ q, q < 64 → M' ((L s i).tag.toNat + q) = T ((L s i).tag.toNat + q) := fun hv q hq => by
    cases hd : (L s i).d with
    | false =>
      rw [hM, hv, hd]
      exact h.clean s i hs hi hv hd q hq
    | true =>
      rw [hM, hv, hd]
      show overL M (L s i) _ = _
      unfold overL
      rw [if_pos (by omega), Nat.add_sub_cancel_left]
      exact h.here s i hs hi hv q hq
  have hne : ∀ t j, t < n → j < m → (t ≠ s ∨ j ≠ i) → upS2 L s i (newL a (fun q => M (k * 64 + q))) t j = L t j := fun t j _ _ hx => by
    unfold upS2 upL
    by_cases e : t = s
    · subst e
      rw [if_pos rfl]
      show (if j = i then _ else _) = _
      rw [if_neg (by omega)]
    · rw [if_neg e]
  have heq : upS2 L s i (newL a (fun q => M (k * 64 + q))) s i = newL a (fun q => M (k * 64 + q)) := by rw [upS2_same, upL_same]
  have hnone : ∀ t j, t < n → j < m → (L t j).v = true → (L t j).tag ≠ (k * 64 : Nat) := fun t j ht hj hv e => by
    obtain ⟨e1, e2⟩ := h.only ha ht hj hv e
    rw [hse] at e1
    subst e1
    rw [hnl j hj] at e2
    cases e2
  have hMk : ∀ q, q < 64 → M' (k * 64 + q) = T (k * 64 + q) := fun q hq => by
    rcases hov (k * 64 + q) with e | ⟨_, e⟩
    · rw [e]; exact h.away k hk hnone q hq
    · exact e
  have hpar : ∀ t j, t < n → j < m → (t = s ∧ j = i) ∨ (t ≠ s ∨ j ≠ i) := fun t j _ _ => by omega
  have htg : (newL a (fun q => M (k * 64 + q))).tag = (k * 64 : Nat) := lbase_k ha
  refine ⟨fun x => ?_, h.bdT, fun t j ht hj hv => ?_, fun t j j2 ht hj hj2 hv hv2 he => ?_, fun t j ht hj hv q hq => ?_, fun t j ht hj hv hd q hq => ?_, fun k2 hk2 hnn q hq => ?_⟩
  · rcases hov x with e | ⟨_, e⟩
    · rw [e]; exact h.bdM x
    · rw [e]; exact h.bdT x
  · rcases hpar t j ht hj with ⟨rfl, rfl⟩ | hx
    · rw [heq, htg]
      exact ⟨k, hk, rfl, by rw [setOf_k n ha, hse]⟩
    · rw [hne t j ht hj hx] at hv ⊢
      exact h.place t j ht hj hv
  · rcases hpar t j ht hj with ⟨rfl, rfl⟩ | hx
    · rcases hpar t j2 ht hj2 with ⟨_, rfl⟩ | hx2
      · rfl
      · rw [heq, htg, hne t j2 ht hj2 hx2] at he
        rw [hne t j2 ht hj2 hx2] at hv2
        exact absurd he.symm (hnone t j2 ht hj2 hv2)
    · rw [hne t j ht hj hx] at hv he
      rcases hpar t j2 ht hj2 with ⟨rfl, rfl⟩ | hx2
      · rw [heq, htg] at he
        exact absurd he (hnone t j ht hj hv)
      · rw [hne t j2 ht hj2 hx2] at hv2 he
        exact h.one t j j2 ht hj hj2 hv hv2 he
  · rcases hpar t j ht hj with ⟨rfl, rfl⟩ | hx
    · rw [heq, htg]
      show M (k * 64 + q) = T (k * 64 + q)
      exact h.away k hk hnone q hq
    · rw [hne t j ht hj hx] at hv ⊢
      exact h.here t j ht hj hv q hq
  · rcases hpar t j ht hj with ⟨rfl, rfl⟩ | hx
    · rw [heq, htg]
      show M' (k * 64 + q) = T (k * 64 + q)
      exact hMk q hq
    · rw [hne t j ht hj hx] at hv hd ⊢
      rcases hov ((L t j).tag.toNat + q) with e | ⟨_, e⟩
      · rw [e]; exact h.clean t j ht hj hv hd q hq
      · exact e
  · by_cases hio : (L s i).v = true ∧ (L s i).tag = (k2 * 64 : Nat)
    · have := hold hio.1 q hq
      rw [hio.2] at this
      exact this
    · rcases hov (k2 * 64 + q) with e | ⟨_, e⟩
      · rw [e]
        refine h.away k2 hk2 (fun t j ht hj hv e2 => ?_) q hq
        rcases hpar t j ht hj with ⟨rfl, rfl⟩ | hx
        · exact hio ⟨hv, e2⟩
        · have := hnn t j ht hj
          rw [hne t j ht hj hx] at this
          exact this hv e2
      · exact e
def updT (T : Nat → Int) (a : Nat) (x : Int) : Nat → Int := fun b => if b = a then x else T b
theorem MemInv.write {n m : Nat} {L : Nat → Nat → CLine} {M T : Nat → Int} (h : MemInv n m L M T) (hn : Sets n) {a : Int} {k : Nat} (h0 : 0 ≤ a) (ha : a / 64 = k) (hk : k < 32) {i : Nat} (hi : i < m) (hl : isLine a (L (setOf n a) i) = true) (V : Nat) :
    MemInv n m (upS2 L (setOf n a) i (putL (L (setOf n a) i) (a % 64).toNat 1 V)) M (updT T a.toNat ((V % 256 : Nat) : Int)) := by
  have hs := setOf_lt hn a
  obtain ⟨hv0, ht0⟩ := isLine_iff.1 hl
  rw [lbase_k ha] at ht0
  have hat : a.toNat = k * 64 + (a % 64).toNat := by omega
  have hnone : ∀ t j, t < n → j < m → (t ≠ setOf n a ∨ j ≠ i) → (L t j).v = true → (L t j).tag ≠ (k * 64 : Nat) := fun t j ht hj hx hv e => by
    obtain ⟨e1, e2⟩ := h.only ha ht hj hv e
    subst e1
    have := h.one _ j i hs hj hi hv hv0 (by rw [e, ht0])
    omega
  generalize setOf n a = s at *
  have hne : ∀ t j, t < n → j < m → (t ≠ s ∨ j ≠ i) → upS2 L s i (putL (L s i) (a % 64).toNat 1 V) t j = L t j := fun t j _ _ hx => by
    unfold upS2 upL
    by_cases e : t = s
    · subst e
      rw [if_pos rfl]
      show (if j = i then _ else _) = _
      rw [if_neg (by omega)]
    · rw [if_neg e]
  have heq : upS2 L s i (putL (L s i) (a % 64).toNat 1 V) s i = putL (L s i) (a % 64).toNat 1 V := by rw [upS2_same, upL_same]
  have hpar : ∀ t j, t < n → j < m → (t = s ∧ j = i) ∨ (t ≠ s ∨ j ≠ i) := fun t j _ _ => by omega
  have hT : ∀ x, x ≠ a.toNat → updT T a.toNat ((V % 256 : Nat) : Int) x = T x := fun x hx => by unfold updT; rw [if_neg hx]
  have hfar : ∀ t j, t < n → j < m → (t ≠ s ∨ j ≠ i) → (L t j).v = true → ∀ q, q < 64 → updT T a.toNat ((V % 256 : Nat) : Int) ((L t j).tag.toNat + q) = T ((L t j).tag.toNat + q) := fun t j ht hj hx hv q hq => hT _ (by
    have h1 := hnone t j ht hj hx hv
    obtain ⟨k2, _, h3, _⟩ := h.place t j ht hj hv
    rw [h3] at h1 ⊢
    omega)
  refine ⟨h.bdM, fun x => ?_, fun t j ht hj hv => ?_, fun t j j2 ht hj hj2 hv hv2 he => ?_, fun t j ht hj hv q hq => ?_, fun t j ht hj hv hd q hq => ?_, fun k2 hk2 hnn q hq => ?_⟩
  · unfold updT
    split
    · omega
    · exact h.bdT x
  · rcases hpar t j ht hj with ⟨rfl, rfl⟩ | hx
    · rw [heq]
      exact h.place t j ht hj hv0
    · rw [hne t j ht hj hx] at hv ⊢
      exact h.place t j ht hj hv
  · have e1 : ∀ j, j < m → (upS2 L s i (putL (L s i) (a % 64).toNat 1 V) t j).v = (L t j).v ∧ (upS2 L s i (putL (L s i) (a % 64).toNat 1 V) t j).tag = (L t j).tag := fun j hj => by
      rcases hpar t j ht hj with ⟨rfl, rfl⟩ | hx
      · rw [heq]; exact ⟨rfl, rfl⟩
      · rw [hne t j ht hj hx]; exact ⟨rfl, rfl⟩
    rw [(e1 j hj).1] at hv
    rw [(e1 j2 hj2).1] at hv2
    rw [(e1 j hj).2, (e1 j2 hj2).2] at he
    exact h.one t j j2 ht hj hj2 hv hv2 he
  · rcases hpar t j ht hj with ⟨rfl, rfl⟩ | hx
    · rw [heq]
      show (if (a % 64).toNat ≤ q ∧ q < (a % 64).toNat + 1 then _ else _) = updT T a.toNat _ ((L t j).tag.toNat + q)
      by_cases hq2 : q = (a % 64).toNat
      · rw [if_pos (by omega), hq2, Nat.sub_self]
        unfold updT
        rw [if_pos (by rw [ht0]; omega)]
        simp
      · rw [if_neg (by omega), hT _ (by rw [ht0]; omega)]
        exact h.here t j ht hj hv0 q hq
    · rw [hne t j ht hj hx] at hv ⊢
      rw [hfar t j ht hj hx hv q hq]
      exact h.here t j ht hj hv q hq
  · rcases hpar t j ht hj with ⟨rfl, rfl⟩ | hx
    · rw [heq] at hd; cases hd
    · rw [hne t j ht hj hx] at hv hd ⊢
      rw [hfar t j ht hj hx hv q hq]
      exact h.clean t j ht hj hv hd q hq
  · have hk3 : k2 ≠ k := fun e => by
      subst e
      have := hnn s i hs hi
      rw [heq] at this
      exact this hv0 ht0
    rw [hT _ (by omega)]
    refine h.away k2 hk2 (fun t j ht hj hv e2 => ?_) q hq
    rcases hpar t j ht hj with ⟨rfl, rfl⟩ | hx
    · rw [ht0] at e2; omega
    · have := hnn t j ht hj
      rw [hne t j ht hj hx] at this
      exact this hv e2
/-! at the end the dirty lines are laid over memory -/
theorem mem_valid {L : Nat → Nat → CLine} {m n : Nat} {x : CLine} : x ∈ validTo L m n ↔ ∃ s i, s < n ∧ i < m ∧ L s i = x ∧ x.v = true := by
  unfold validTo validIn
  simp only [List.mem_flatMap, List.mem_range, List.mem_filter, List.mem_map]
  constructor
  · rintro ⟨s, hs, ⟨i, hi, e⟩, hv⟩
    exact ⟨s, i, hs, hi, e, hv⟩
  · rintro ⟨s, i, hs, hi, e, hv⟩
    exact ⟨s, hs, ⟨i, hi, e⟩, hv⟩
theorem mem_dirty {L : Nat → Nat → CLine} {m n : Nat} {x : CLine} : x ∈ dl (validTo L m n) ↔ ∃ s i, s < n ∧ i < m ∧ L s i = x ∧ x.v = true ∧ x.d = true := by
  unfold dl
  rw [List.mem_filter, mem_valid]
  constructor
  · rintro ⟨⟨s, i, hs, hi, e, hv⟩, hd⟩
    exact ⟨s, i, hs, hi, e, hv, hd⟩
  · rintro ⟨s, i, hs, hi, e, hv, hd⟩
    exact ⟨⟨s, i, hs, hi, e, hv⟩, hd⟩
def overAll (M : Nat → Int) (d : List CLine) : Nat → Int := d.foldl overL M
theorem overAll_snoc (M : Nat → Int) (d : List CLine) (x : CLine) : overAll M (d ++ [x]) = overL (overAll M d) x := by simp [overAll]
/-- what is known of a line that is told -/
def ToldOk (T : Nat → Int) (x : CLine) : Prop := ∃ k : Nat, k < 32 ∧ x.tag = (k * 64 : Nat) ∧ ∀ q, q < 64 → x.data q = T (k * 64 + q)
theorem MemInv.told {n m : Nat} {L : Nat → Nat → CLine} {M T : Nat → Int} (h : MemInv n m L M T) {x : CLine} (hx : x ∈ dl (validTo L m n)) : ToldOk T x := by
  obtain ⟨s, i, hs, hi, rfl, hv, _⟩ := mem_dirty.1 hx
  obtain ⟨k, h1, h2, _⟩ := h.place s i hs hi hv
  refine ⟨k, h1, h2, fun q hq => ?_⟩
  rw [h.here s i hs hi hv q hq, h2]
  rfl
theorem overAll_at (T : Nat → Int) : ∀ (d : List CLine) (M : Nat → Int), (∀ x ∈ d, ToldOk T x) → ∀ a, (overAll M d a = M a ∧ ∀ x ∈ d, ¬ (x.tag.toNat ≤ a ∧ a < x.tag.toNat + 64)) ∨ overAll M d a = T a
  | [], _, _, a => .inl ⟨rfl, fun x hx => by simp at hx⟩
  | x :: d, M, hd, a => by
    obtain ⟨k, hk, ht, hq⟩ := hd x (by simp)
    rcases overAll_at T d (overL M x) (fun y hy => hd y (by simp [hy])) a with ⟨e, hn⟩ | e
    · have e : overAll M (x :: d) a = overL M x a := e
      rw [e]
      unfold overL
      by_cases hx : x.tag.toNat ≤ a ∧ a < x.tag.toNat + 64
      · right
        rw [if_pos hx, hq _ (by omega)]
        congr 1
        rw [ht] at hx ⊢
        omega
      · left
        rw [if_neg hx]
        refine ⟨rfl, fun y hy => ?_⟩
        rcases List.mem_cons.1 hy with rfl | hy
        · exact hx
        · exact hn y hy
    · exact .inr e
theorem MemInv.end_ {n m : Nat} {L : Nat → Nat → CLine} {M T : Nat → Int} (h : MemInv n m L M T) {d : List CLine} (hd : d.Perm (dl (validTo L m n))) {a : Nat} (ha : a < 2048) : overAll M d a = T a := by
  rcases overAll_at T d M (fun x hx => h.told (hd.mem_iff.1 hx)) a with ⟨e, hn⟩ | e
  · rw [e]
    obtain ⟨k, q, hk, hq, rfl⟩ : ∃ k q, k < 32 ∧ q < 64 ∧ a = k * 64 + q := ⟨a / 64, a % 64, by omega, by omega, by omega⟩
    by_cases hex : ∃ s i, s < n ∧ i < m ∧ (L s i).v = true ∧ (L s i).tag = (k * 64 : Nat)
    · obtain ⟨s, i, hs, hi, hv, ht⟩ := hex
      cases hdd : (L s i).d with
      | false =>
        have := h.clean s i hs hi hv hdd q hq
        rw [ht] at this
        exact this
      | true =>
        have := hn (L s i) (hd.mem_iff.2 (mem_dirty.2 ⟨s, i, hs, hi, rfl, hv, hdd⟩))
        rw [ht] at this
        omega
    · exact h.away k hk (fun s i hs hi hv e => hex ⟨s, i, hs, hi, hv, e⟩) q hq
  · exact e
end Go.Proofs.Ytlcedcjcecahoaa
