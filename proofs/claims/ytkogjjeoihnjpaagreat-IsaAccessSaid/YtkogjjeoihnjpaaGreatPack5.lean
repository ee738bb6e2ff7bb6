/- Regions whose order is open: what may be taken first, under what is held. No condition. -/
import Derived.OrdersHeld
import Derived.Test.YtkogjjeoihnjpaaGreatPack1
section
set_option linter.unusedVariables false
set_option linter.unusedSimpArgs false
namespace Go.Proofs.YtkogjjeoihnjpaaGreat.Sx
open Go
def stillKind : Op → Bool
  | .move _ | .assign _ | .pick .. | .build .. | .nilCheck _ | .binOp .. | .unOp .. | .convert .. | .makeInterface .. | .makeFunc .. | .slice .. | .fieldAddr .. | .field .. | .indexAddr .. | .index .. | .extract .. | .load .. => true
  | _ => false
section
variable {P : Program} {ops : Array Oper} {md : Region.Mode}
/-- operation t waits for operation i, directly or through others -/
inductive Reach (md : Region.Mode) (ops : Array Oper) : Nat → Nat → Prop
  | one {t : Nat} {o : Oper} {e : Edge} : ops[t]? = some o → e ∈ o.after → Region.binds md e = true → Reach md ops t e.on
  | more {t i : Nat} {o : Oper} {e : Edge} : ops[t]? = some o → e ∈ o.after → Region.binds md e = true → Reach md ops e.on i → Reach md ops t i
/-- which ones an operation waits for, as bits -/
def accAt (acc : List Nat) (n : Nat) : Nat := bif Nat.blt n acc.length then acc.getD (acc.length - 1 - n) 0 else 0
def bitsOf (md : Region.Mode) (acc : List Nat) (l : List Edge) : Nat :=
  l.foldl (fun s e => bif Region.binds md e then s ||| (1 <<< e.on) ||| accAt acc e.on else s) 0
/-- the greatest number first -/
def beforeL (md : Region.Mode) : List Oper → List Nat → List Nat
  | [], acc => acc
  | o :: rest, acc => beforeL md rest (bitsOf md acc o.after.toList :: acc)
def befBit (md : Region.Mode) (ops : Array Oper) (t i : Nat) : Bool := (accAt (beforeL md ops.toList []) t).testBit i
def AccOk (md : Region.Mode) (ops : Array Oper) (acc : List Nat) : Prop := ∀ t i, (accAt acc t).testBit i = true → Reach md ops t i
theorem bitsOf_ok {acc : List Nat} (ha : AccOk md ops acc) {o : Oper} {t : Nat} (ho : ops[t]? = some o) {i : Nat} (h : (bitsOf md acc o.after.toList).testBit i = true) : Reach md ops t i := by
  have key : ∀ (l : List Edge) (s : Nat), (∀ e ∈ l, e ∈ o.after) → (∀ i, s.testBit i = true → Reach md ops t i) →
      ∀ i, (l.foldl (fun s e => bif Region.binds md e then s ||| (1 <<< e.on) ||| accAt acc e.on else s) s).testBit i = true → Reach md ops t i := by
    intro l
    induction l with
    | nil => intro s _ hs i hi; exact hs i hi
    | cons e l ih =>
      intro s hl hs
      rw [List.foldl_cons]
      refine ih _ (fun e he => hl e (List.mem_cons_of_mem _ he)) fun i hi => ?_
      cases hb : Region.binds md e with
      | false => rw [hb, cond_false] at hi; exact hs i hi
      | true =>
        rw [hb, cond_true, Nat.testBit_or, Nat.testBit_or] at hi
        simp only [Bool.or_eq_true] at hi
        rcases hi with (hi | hi) | hi
        · exact hs i hi
        · have : i = e.on := by
            rw [Nat.one_shiftLeft, Nat.testBit_two_pow] at hi
            have := of_decide_eq_true hi
            omega
          rw [this]
          exact .one ho (hl e List.mem_cons_self) hb
        · exact .more ho (hl e List.mem_cons_self) hb (ha e.on i hi)
  exact key o.after.toList 0 (fun e he => Array.mem_toList_iff.1 he) (fun i hi => by simp at hi) i h
theorem beforeL_ok : ∀ (l : List Oper) (acc : List Nat), (∀ j, l[j]? = ops[acc.length + j]?) → AccOk md ops acc → AccOk md ops (beforeL md l acc)
  | [], acc, _, ha => ha
  | o :: rest, acc, hl, ha => by
    refine beforeL_ok rest _ (fun j => by have := hl (j + 1); simpa [Nat.add_assoc, Nat.add_comm 1 j] using this) fun t i hi => ?_
    have h0 : ops[acc.length]? = some o := by simpa using (hl 0).symm
    unfold accAt at hi
    simp only [List.length_cons] at hi
    cases hb : Nat.blt t (acc.length + 1) with
    | false => rw [hb, cond_false] at hi; simp at hi
    | true =>
      rw [hb, cond_true] at hi
      have hb' : t < acc.length + 1 := by simpa [Nat.blt_eq] using hb
      by_cases e : t = acc.length
      · subst e
        rw [show acc.length + 1 - 1 - acc.length = 0 by omega] at hi
        exact bitsOf_ok ha h0 (by simpa using hi)
      · have e2 : acc.length + 1 - 1 - t = (acc.length - 1 - t) + 1 := by omega
        rw [e2] at hi
        refine ha t i ?_
        unfold accAt
        have : Nat.blt t acc.length = true := by rw [Nat.blt_eq]; omega
        rw [this, cond_true]
        simpa using hi
theorem befBit_ok {t i : Nat} (h : befBit md ops t i = true) : Reach md ops t i :=
  beforeL_ok (md := md) (ops := ops) ops.toList [] (fun j => by simp) (fun t i hi => by simp [accAt] at hi) t i h
/-! ### what has come up is closed -/
def Closed (md : Region.Mode) (ops : Array Oper) (listed : Array Bool) : Prop :=
  ∀ j oj, ops[j]? = some oj → listed.getD j false = true → ∀ e ∈ oj.after, Region.binds md e = true → listed.getD e.on false = true
theorem getD_both' {listed : Array Bool} {i : Nat} (h : listed.getD i true = false) : listed.getD i false = false := by
  rcases Nat.lt_or_ge i listed.size with h' | h'
  · simp [h'] at h ⊢; exact h
  · simp [Array.getElem?_eq_none h'] at h
theorem Closed.set {i : Nat} {listed : Array Bool} (inv : Closed md ops listed) (hi : i ∈ Region.ready md ops listed) : Closed md ops (listed.setIfInBounds i true) := by
  obtain ⟨_, oi, hoi, hall⟩ := mem_ready.1 hi
  intro j oj hj hl e he hb
  by_cases hij : i = j
  · subst hij
    have : oj = oi := Option.some.inj (hj.symm.trans hoi)
    subst this
    exact getD_set_true (hall e he hb)
  · rw [getD_set_ne false hij] at hl
    exact getD_set_true (inv j oj hj hl e he hb)
theorem Reach.listed {listed : Array Bool} (inv : Closed md ops listed) {t i : Nat} (h : Reach md ops t i) (ht : listed.getD t false = true) : listed.getD i false = true := by
  induction h with
  | one ho he hb => exact inv _ _ ho ht _ he hb
  | more ho he hb _ ih => exact ih (inv _ _ ho ht _ he hb)
/-! ### what is held -/
def loud (ops : Array Oper) (k : Nat) : Prop := ∀ o, ops[k]? = some o → stillKind o.op = false
/-- what is held of the world, of each that was taken first: till one that waits for it has done something -/
def SL (md : Region.Mode) (ops : Array Oper) (L : List (Nat × (World → Prop))) (listed : Array Bool) (w : World) : Prop :=
  ∀ q ∈ L, (∃ k, loud ops k ∧ Reach md ops k q.1 ∧ listed.getD k false = true) ∨ q.2 w
def wpAnyG (P : Program) (md : Region.Mode) (ops : Array Oper) (Q : Exit → Act → World → Prop) (L : List (Nat × (World → Prop))) : Nat → Array Bool → Act → World → Prop
  | 0, listed, a, w => Region.ready md ops listed = [] ∧ Q .normal a w
  | fuel + 1, listed, a, w =>
    (Region.ready md ops listed = [] → Q .normal a w) ∧
    ∀ i ∈ Region.ready md ops listed, wpOp P ops Q i (fun a' w' => SL md ops L (listed.setIfInBounds i true) w' ∧ wpAnyG P md ops Q L fuel (listed.setIfInBounds i true) a' w') a w
variable {Q : Exit → Act → World → Prop} {L : List (Nat × (World → Prop))}
theorem wpAny_of_G : ∀ (fuel : Nat) (listed : Array Bool) (a : Act) (w : World), wpAnyG P md ops Q L fuel listed a w → wpAny P md ops Q fuel listed a w
  | 0, _, _, _, h => h
  | fuel + 1, _, _, _, h => ⟨h.1, fun i hi => wpOp_mono (fun a' w' h' => wpAny_of_G fuel _ a' w' h'.2) (h.2 i hi)⟩
theorem wpAnyG_weak {L' : List (Nat × (World → Prop))} {l0 : Array Bool} (hL : ∀ listed w, (∀ k, l0.getD k false = true → listed.getD k false = true) → SL md ops L' listed w → SL md ops L listed w) :
    ∀ (fuel : Nat) (listed : Array Bool) (a : Act) (w : World), (∀ k, l0.getD k false = true → listed.getD k false = true) → wpAnyG P md ops Q L' fuel listed a w → wpAnyG P md ops Q L fuel listed a w
  | 0, _, _, _, _, h => h
  | fuel + 1, listed, a, w, hl, h => by
    have hl' : ∀ i k, l0.getD k false = true → (listed.setIfInBounds i true).getD k false = true := fun i k hk => getD_set_true (hl k hk)
    exact ⟨h.1, fun i hi => wpOp_mono (fun a' w' h' => ⟨hL _ _ (hl' i) h'.1, wpAnyG_weak hL fuel _ a' w' (hl' i) h'.2⟩) (h.2 i hi)⟩
theorem SL.set {i : Nat} {listed : Array Bool} {w : World} (h : SL md ops L listed w) : SL md ops L (listed.setIfInBounds i true) w := fun q hq => by
  rcases h q hq with ⟨k, h1, h2, h3⟩ | h
  · exact .inl ⟨k, h1, h2, getD_set_true h3⟩
  · exact .inr h
theorem SL.unset {i : Nat} {oi : Oper} (hi : ops[i]? = some oi) (hst : stillKind oi.op = true) {listed : Array Bool} {w : World} (h : SL md ops L (listed.setIfInBounds i true) w) : SL md ops L listed w := fun q hq => by
  rcases h q hq with ⟨k, h1, h2, h3⟩ | h
  · refine .inl ⟨k, h1, h2, ?_⟩
    have : i ≠ k := fun e => by subst e; rw [h1 oi hi] at hst; cases hst
    rwa [getD_set_ne false this] at h3
  · exact .inr h
theorem SL.have {i : Nat} {Si : World → Prop} (hL : (i, Si) ∈ L) {listed : Array Bool} {w : World} (inv : Closed md ops listed) (hi : i ∈ Region.ready md ops listed) (h : SL md ops L listed w) : Si w := by
  rcases h _ hL with ⟨k, _, h2, h3⟩ | h
  · have := h2.listed inv h3
    rw [getD_both' (mem_ready.1 hi).1] at this
    cases this
  · exact h
theorem wpAnyG_first {i : Nat} {oi : Oper} {v : Value} {Si : World → Prop} (hi : ops[i]? = some oi) (hst : stillKind oi.op = true) (hL : (i, Si) ∈ L) (hsel : ∀ (j : Nat) (o : Oper) cs b, ops[j]? = some o → o.op ≠ .select cs b)
    (hQ : ∀ c a w, Q (.panic c) (a.put oi.dst v) w → Q (.panic c) a w) :
    ∀ (fuel : Nat) (listed : Array Bool) (a : Act) (w : World), Closed md ops listed →
      (∀ j oj, ops[j]? = some oj → j ≠ i → listed.getD j true = false → (∀ e ∈ oj.after, Region.binds md e = true → e.on ≠ i) → oi.apart ops oj = true) →
      i ∈ Region.ready md ops listed → YieldsIf P ops Si oi v a → SL md ops L listed w →
      wpAnyG P md ops Q L fuel (listed.setIfInBounds i true) (a.put oi.dst v) w → wpAnyG P md ops Q L (fuel + 1) listed a w := by
  intro fuel
  induction fuel with
  | zero =>
    intro listed a w inv hfree hr hy hS H
    refine ⟨fun h => (by rw [h] at hr; cases hr), fun j hj => ?_⟩
    by_cases hji : j = i
    · subst hji; exact hy.wpOp hi (hS.have hL inv hr) ⟨hS.set, H⟩
    · have := ready_mono hj hji
      rw [H.1] at this
      cases this
  | succ fuel ih =>
    intro listed a w inv hfree hr hy hS H
    refine ⟨fun h => (by rw [h] at hr; cases hr), fun j hj => ?_⟩
    by_cases hji : j = i
    · subst hji; exact hy.wpOp hi (hS.have hL inv hr) ⟨hS.set, H⟩
    · have h1 := H.2 j (ready_mono hj hji)
      obtain ⟨hjun, oj, hoj, hall⟩ := mem_ready.1 hj
      have hnot : ∀ e ∈ oj.after, Region.binds md e = true → e.on ≠ i := fun e he hb heq => by
        have h1 := hall e he hb
        rw [heq, getD_both' (mem_ready.1 hr).1] at h1
        cases h1
      have h2 := wpOp_putIf hoj (hfree j oj hoj hji hjun hnot) (fun cs b => hsel i oi cs b hi) (fun cs b => hsel j oj cs b hoj) hQ hy h1
      have hfree' : ∀ k ok, ops[k]? = some ok → k ≠ i → (listed.setIfInBounds j true).getD k true = false →
          (∀ e ∈ ok.after, Region.binds md e = true → e.on ≠ i) → oi.apart ops ok = true := fun k ok hk hki hun hno => by
        refine hfree k ok hk hki ?_ hno
        by_cases hjk : j = k
        · subst hjk; exact hjun
        · rw [getD_set_ne true hjk] at hun; exact hun
      refine wpOp_mono (fun a' w' h3 => ?_) h2
      rw [← Array.setIfInBounds_comm _ _ hji] at h3
      have hS' : SL md ops L (listed.setIfInBounds j true) w' := SL.unset hi hst h3.2.1
      exact ⟨hS', ih (listed.setIfInBounds j true) a' w' (inv.set hj) hfree' (ready_mono hr (Ne.symm hji)) h3.1 hS' h3.2.2⟩
/-! ### the order, found once -/
def markA (n m : Nat) : Array Bool := ((List.range n).map fun i => m.testBit i).toArray
theorem markA_set {n m i : Nat} (hi : i < n) : (markA n m).setIfInBounds i true = markA n (m ||| (1 <<< i)) := by
  apply Array.ext
  · simp [markA]
  · intro j h1 h2
    simp only [markA, List.size_toArray, List.length_map, List.length_range, Array.size_setIfInBounds] at h1 h2
    rw [Array.getElem_setIfInBounds (by simpa [markA] using h1)]
    simp only [markA, List.getElem_toArray, List.getElem_map, List.getElem_range, Nat.testBit_or, Nat.one_shiftLeft, Nat.testBit_two_pow]
    by_cases e : i = j
    · subst e; simp
    · simp [e]
theorem markA_zero (n : Nat) : markA n 0 = Array.replicate n false := by
  apply Array.ext
  · simp [markA]
  · intro j h1 h2; simp [markA]
theorem markA_getD (n m i : Nat) (d : Bool) : (markA n m).getD i d = if i < n then m.testBit i else d := by
  unfold markA
  rw [Array.getD_eq_getD_getElem?]
  simp only [List.getElem?_toArray, List.getElem?_map]
  by_cases h : i < n
  · rw [if_pos h, List.getElem?_range h]; rfl
  · rw [if_neg h, List.getElem?_eq_none (by simpa using h)]; rfl
inductive Nx where
  | done
  | first (i : Nat)
  | all (l : List Nat)
def isStill (ops : Array Oper) (i : Nat) : Bool := match ops[i]? with | some o => stillKind o.op | none => false
/-- is all there that it waits for? -/
def waitsOk (md : Region.Mode) (n m : Nat) (o : Oper) : Bool := o.after.toList.all fun e => !Region.binds md e || (Nat.blt e.on n && m.testBit e.on)
/-- which ones are ready: one go over the list -/
def readyL (md : Region.Mode) (n m : Nat) : List Oper → Nat → List Nat
  | [], _ => []
  | o :: r, i => bif !(m.testBit i) && waitsOk md n m o then i :: readyL md n m r (i + 1) else readyL md n m r (i + 1)
theorem readyL_eq (m : Nat) : ∀ (l : List Oper) (i0 : Nat), (∀ j, l[j]? = ops[i0 + j]?) → i0 + l.length = ops.size → readyL md ops.size m l i0 = (List.range' i0 l.length).filter fun i => !(markA ops.size m).getD i true && ((ops[i]?).map (·.after.all fun e => !Region.binds md e || (markA ops.size m).getD e.on false)).getD false
  | [], i0, _, _ => rfl
  | o :: r, i0, hl, hs => by
    have h0 : ops[i0]? = some o := by simpa using (hl 0).symm
    have hlt : i0 < ops.size := (Array.getElem?_eq_some_iff.1 h0).1
    have ih := readyL_eq m r (i0 + 1) (fun j => by have := hl (j + 1); simpa [Nat.add_assoc, Nat.add_comm 1 j] using this) (by simp at hs; omega)
    rw [List.length_cons, List.range'_succ, List.filter_cons, readyL, ih]
    have e : (!(markA ops.size m).getD i0 true && ((ops[i0]?).map (·.after.all fun e => !Region.binds md e || (markA ops.size m).getD e.on false)).getD false) = (!(m.testBit i0) && waitsOk md ops.size m o) := by
      rw [h0, markA_getD, if_pos hlt]
      simp only [Option.map_some, Option.getD_some]
      congr 1
      unfold waitsOk
      rw [← Array.all_toList]
      congr 1
      funext e
      rw [markA_getD]
      by_cases h : e.on < ops.size
      · rw [if_pos h, show Nat.blt e.on ops.size = true by rw [Nat.blt_eq]; exact h, Bool.true_and]
      · rw [if_neg h, show Nat.blt e.on ops.size = false by cases hb : Nat.blt e.on ops.size with | false => rfl | true => exact absurd (by simpa [Nat.blt_eq] using hb) h, Bool.false_and]
    rw [e]
    cases (!(m.testBit i0) && waitsOk md ops.size m o) <;> rfl
theorem readyL_ready (m : Nat) : readyL md ops.size m ops.toList 0 = Region.ready md ops (markA ops.size m) := by
  rw [readyL_eq m ops.toList 0 (fun j => by simp) (by simp)]
  unfold Region.ready
  rw [List.range_eq_range']
  simp
/-- what may come beside it has nothing to do with it -/
def FreeAt (md : Region.Mode) (ops : Array Oper) (m i : Nat) : Prop :=
  ∀ oi, ops[i]? = some oi → ∀ (j : Nat) (oj : Oper), ops[j]? = some oj → j ≠ i → (markA ops.size m).getD j true = false → (∀ e ∈ oj.after, Region.binds md e = true → e.on ≠ i) → oi.apart ops oj = true
/-! #### the same by masks -/
noncomputable def orL (l : List Nat) : Nat := List.rec (motive := fun _ => Nat) 0 (fun d _ s => Nat.lor s (Nat.shiftLeft 1 d)) l
theorem orL_test : ∀ {l : List Nat} {k : Nat}, (orL l).testBit k = true ↔ k ∈ l
  | [], k => by show (0 : Nat).testBit k = true ↔ _; simp
  | d :: l, k => by
    show ((orL l) ||| (1 <<< d)).testBit k = true ↔ _
    rw [Nat.testBit_or, Nat.one_shiftLeft, Nat.testBit_two_pow, Bool.or_eq_true, orL_test, decide_eq_true_eq, List.mem_cons]
    constructor
    · rintro (h | h)
      · exact .inr h
      · exact .inl h.symm
    · rintro (h | h)
      · exact .inr h.symm
      · exact .inl h
def bitF (m i : Nat) : Bool := Nat.beq (Nat.mod (Nat.shiftRight m i) 2) 1
theorem bitF_eq (m i : Nat) : bitF m i = m.testBit i := by
  rw [Nat.testBit_eq_decide_div_mod_eq]
  unfold bitF
  show Nat.beq ((m >>> i) % 2) 1 = _
  rw [Nat.shiftRight_eq_div_pow]
  by_cases h : m / 2 ^ i % 2 = 1
  · rw [h]; rfl
  · rw [decide_eq_false h]
    cases hb : Nat.beq (m / 2 ^ i % 2) 1 with
    | false => rfl
    | true => exact absurd (Nat.eq_of_beq_eq_true hb) h
def subF (a m : Nat) : Bool := Nat.beq (Nat.land a m) a
theorem subF_ok {a m : Nat} : subF a m = true ↔ ∀ k, a.testBit k = true → m.testBit k = true := by
  unfold subF
  constructor
  · intro h k hk
    have h1 : a &&& m = a := Nat.eq_of_beq_eq_true h
    rw [← h1, Nat.testBit_and, Bool.and_eq_true] at hk
    exact hk.2
  · intro h
    have h1 : a &&& m = a := Nat.eq_of_testBit_eq fun k => by
      rw [Nat.testBit_and]
      cases hb : a.testBit k with
      | false => rfl
      | true => rw [h k hb]; rfl
    show Nat.beq (a &&& m) a = true
    rw [h1]; simp
def offF (a m : Nat) : Bool := Nat.beq (Nat.land a m) 0
theorem offF_ok {a m : Nat} (h : offF a m = true) {k : Nat} (h1 : a.testBit k = true) (h2 : m.testBit k = true) : False := by
  have h3 : a &&& m = 0 := Nat.eq_of_beq_eq_true h
  have : (a &&& m).testBit k = true := by rw [Nat.testBit_and, h1, h2]; rfl
  rw [h3] at this
  simp at this
/-- an operation in masks: what it writes, reads, waits for; does it only look? -/
inductive Mk where
  | mk (D R A : Nat) (s : Bool)
def onL (md : Region.Mode) (o : Oper) : List Nat := o.after.toList.filterMap fun e => bif Region.binds md e then some e.on else none
theorem mem_onL {o : Oper} {k : Nat} : k ∈ onL md o ↔ ∃ e ∈ o.after, Region.binds md e = true ∧ e.on = k := by
  unfold onL
  rw [List.mem_filterMap]
  constructor
  · rintro ⟨e, he, h⟩
    cases hb : Region.binds md e with
    | false => rw [hb] at h; cases h
    | true => rw [hb] at h; cases h; exact ⟨e, Array.mem_toList_iff.1 he, hb, rfl⟩
  · rintro ⟨e, he, hb, rfl⟩
    exact ⟨e, Array.mem_toList_iff.2 he, by rw [hb]; rfl⟩
noncomputable def mkOf (md : Region.Mode) (ops : Array Oper) (o : Oper) : Mk := .mk (orL o.dst.toList) (orL (o.looksAt ops)) (orL (onL md o)) (stillKind o.op)
noncomputable def mks (md : Region.Mode) (ops : Array Oper) : List Oper → List Mk := fun l => List.rec (motive := fun _ => List Mk) [] (fun o _ r => mkOf md ops o :: r) l
/-- is all there that it waits for? -/
theorem waits_sub {n m : Nat} {o : Oper} {mm : Nat} (hm : ∀ k, mm.testBit k = true ↔ k < n ∧ m.testBit k = true) : subF (orL (onL md o)) mm = waitsOk md n m o := by
  apply Bool.eq_iff_iff.2
  rw [subF_ok]
  unfold waitsOk
  rw [List.all_eq_true]
  constructor
  · intro h e he
    cases hb : Region.binds md e with
    | false => rfl
    | true =>
      have := (hm _).1 (h e.on (orL_test.2 (mem_onL.2 ⟨e, Array.mem_toList_iff.1 he, hb, rfl⟩)))
      rw [this.2, show Nat.blt e.on n = true by rw [Nat.blt_eq]; exact this.1]; rfl
  · intro h k hk
    obtain ⟨e, he, hb, rfl⟩ := mem_onL.1 (orL_test.1 hk)
    have := h e (Array.mem_toList_iff.2 he)
    simp only [hb, Bool.not_true, Bool.false_or, Bool.and_eq_true] at this
    exact (hm _).2 ⟨by simpa [Nat.blt_eq] using this.1, this.2⟩
noncomputable def rdyM (mm : Nat) (l : List Mk) : Nat → List Nat :=
  List.rec (motive := fun _ => Nat → List Nat) (fun _ => []) (fun x _ ih i => Mk.rec (motive := fun _ => List Nat) (fun _ _ A _ => Bool.rec (motive := fun _ => List Nat) (Bool.rec (motive := fun _ => List Nat) (ih (Nat.succ i)) (i :: ih (Nat.succ i)) (subF A mm)) (ih (Nat.succ i)) (bitF mm i)) x) l
theorem rdyM_eq {n m mm : Nat} (hm : ∀ k, mm.testBit k = true ↔ k < n ∧ m.testBit k = true) : ∀ (l : List Oper) (i : Nat), i + l.length ≤ n → rdyM mm (mks md ops l) i = readyL md n m l i
  | [], i, _ => rfl
  | o :: r, i, h => by
    have ih := rdyM_eq hm r (i + 1) (by simp at h; omega)
    have hbit : bitF mm i = m.testBit i := by
      rw [bitF_eq]
      apply Bool.eq_iff_iff.2
      rw [hm]
      simp at h
      exact ⟨fun h => h.2, fun h' => ⟨by omega, h'⟩⟩
    show (Bool.rec (motive := fun _ => List Nat) (Bool.rec (motive := fun _ => List Nat) (rdyM mm (mks md ops r) (i + 1)) (i :: rdyM mm (mks md ops r) (i + 1)) (subF (orL (onL md o)) mm)) (rdyM mm (mks md ops r) (i + 1)) (bitF mm i) : List Nat) = _
    rw [ih, hbit, waits_sub hm, readyL]
    cases m.testBit i <;> cases waitsOk md n m o <;> rfl
noncomputable def freeM (mm i D R : Nat) (l : List Mk) : Nat → Bool :=
  List.rec (motive := fun _ => Nat → Bool) (fun _ => true) (fun y _ ih j => Mk.rec (motive := fun _ => Bool) (fun D' R' A' _ =>
    Bool.rec (motive := fun _ => Bool) (Bool.rec (motive := fun _ => Bool) (Bool.rec (motive := fun _ => Bool) (Bool.rec (motive := fun _ => Bool) false (Bool.rec (motive := fun _ => Bool) false (ih (Nat.succ j)) (offF D' R)) (offF D (Nat.lor R' D'))) (ih (Nat.succ j)) (bitF A' i)) (ih (Nat.succ j)) (Nat.beq j i)) (ih (Nat.succ j)) (bitF mm j)) y) l
theorem apart_of {oi oj : Oper} (h1 : offF (orL oi.dst.toList) (Nat.lor (orL (oj.looksAt ops)) (orL oj.dst.toList)) = true) (h2 : offF (orL oj.dst.toList) (orL (oi.looksAt ops)) = true) : oi.apart ops oj = true := by
  unfold Oper.apart
  rw [Bool.and_eq_true]
  constructor
  · cases hd : oi.dst with
    | none => rfl
    | some d =>
      have hD : (orL oi.dst.toList).testBit d = true := orL_test.2 (by rw [hd]; simp)
      simp only [Bool.and_eq_true, Bool.not_eq_true']
      refine ⟨?_, ?_⟩
      · cases hc : (oj.looksAt ops).contains d with
        | false => rfl
        | true =>
          exfalso
          refine offF_ok h1 hD ?_
          show ((orL (oj.looksAt ops)) ||| (orL oj.dst.toList)).testBit d = true
          rw [Nat.testBit_or, orL_test.2 (by simpa using hc)]; rfl
      · rw [bne_iff_ne]
        intro e
        refine offF_ok h1 hD ?_
        show ((orL (oj.looksAt ops)) ||| (orL oj.dst.toList)).testBit d = true
        rw [Nat.testBit_or, show (orL oj.dst.toList).testBit d = true from orL_test.2 (by rw [e]; simp), Bool.or_true]
  · cases hd : oj.dst with
    | none => rfl
    | some d =>
      simp only [Bool.not_eq_true']
      cases hc : (oi.looksAt ops).contains d with
      | false => rfl
      | true => exact (offF_ok h2 (k := d) (orL_test.2 (by rw [hd]; simp)) (orL_test.2 (by simpa using hc))).elim
theorem freeM_ok {mm i : Nat} {oi : Oper} : ∀ {l : List Oper} {j0 : Nat}, freeM mm i (orL oi.dst.toList) (orL (oi.looksAt ops)) (mks md ops l) j0 = true → ∀ k oj, l[k]? = some oj → j0 + k ≠ i → mm.testBit (j0 + k) = false → (∀ e ∈ oj.after, Region.binds md e = true → e.on ≠ i) → oi.apart ops oj = true
  | [], j0, h, k, oj, hk, _, _, _ => by simp at hk
  | o :: r, j0, h, k, oj, hk, h1, h2, h3 => by
    have h' : (Bool.rec (motive := fun _ => Bool) (Bool.rec (motive := fun _ => Bool) (Bool.rec (motive := fun _ => Bool) (Bool.rec (motive := fun _ => Bool) false (Bool.rec (motive := fun _ => Bool) false (freeM mm i (orL oi.dst.toList) (orL (oi.looksAt ops)) (mks md ops r) (j0 + 1)) (offF (orL o.dst.toList) (orL (oi.looksAt ops)))) (offF (orL oi.dst.toList) (Nat.lor (orL (o.looksAt ops)) (orL o.dst.toList)))) (freeM mm i (orL oi.dst.toList) (orL (oi.looksAt ops)) (mks md ops r) (j0 + 1)) (bitF (orL (onL md o)) i)) (freeM mm i (orL oi.dst.toList) (orL (oi.looksAt ops)) (mks md ops r) (j0 + 1)) (Nat.beq j0 i)) (freeM mm i (orL oi.dst.toList) (orL (oi.looksAt ops)) (mks md ops r) (j0 + 1)) (bitF mm j0) : Bool) = true := h
    have hrest : freeM mm i (orL oi.dst.toList) (orL (oi.looksAt ops)) (mks md ops r) (j0 + 1) = true := by
      cases c1 : bitF mm j0 <;> rw [c1] at h' <;> simp only at h'
      · cases c2 : Nat.beq j0 i <;> rw [c2] at h' <;> simp only at h'
        · cases c3 : bitF (orL (onL md o)) i <;> rw [c3] at h' <;> simp only at h'
          · cases c4 : offF (orL oi.dst.toList) (Nat.lor (orL (o.looksAt ops)) (orL o.dst.toList)) <;> rw [c4] at h' <;> simp only at h'
            · cases h'
            · cases c5 : offF (orL o.dst.toList) (orL (oi.looksAt ops)) <;> rw [c5] at h' <;> simp only at h'
              · cases h'
              · exact h'
          · exact h'
        · exact h'
      · exact h'
    cases k with
    | succ k => exact freeM_ok hrest k oj (by simpa using hk) (by rw [show j0 + 1 + k = j0 + (k + 1) by omega]; exact h1) (by rw [show j0 + 1 + k = j0 + (k + 1) by omega]; exact h2) h3
    | zero =>
      simp only [List.getElem?_cons_zero, Option.some.injEq] at hk
      subst hk
      rw [Nat.add_zero] at h1 h2
      rw [show bitF mm j0 = false by rw [bitF_eq]; exact h2] at h'
      simp only at h'
      rw [show Nat.beq j0 i = false by cases hb : Nat.beq j0 i with | false => rfl | true => exact absurd (Nat.eq_of_beq_eq_true hb) h1] at h'
      simp only at h'
      rw [show bitF (orL (onL md o)) i = false by
        rw [bitF_eq]
        cases hb : (orL (onL md o)).testBit i with
        | false => rfl
        | true =>
          obtain ⟨e, he, hb, hi⟩ := mem_onL.1 (orL_test.1 hb)
          exact absurd hi (h3 e he hb)] at h'
      simp only at h'
      cases c4 : offF (orL oi.dst.toList) (Nat.lor (orL (o.looksAt ops)) (orL o.dst.toList)) <;> rw [c4] at h' <;> simp only at h'
      · cases h'
      · cases c5 : offF (orL o.dst.toList) (orL (oi.looksAt ops)) <;> rw [c5] at h' <;> simp only at h'
        · cases h'
        · exact apart_of c4 c5
noncomputable def findM (mm : Nat) (all : List Mk) (l : List Mk) : Nat → Option Nat :=
  List.rec (motive := fun _ => Nat → Option Nat) (fun _ => none) (fun x _ ih i => Mk.rec (motive := fun _ => Option Nat) (fun D R A s => Bool.rec (motive := fun _ => Option Nat) (Bool.rec (motive := fun _ => Option Nat) (ih (Nat.succ i)) (Bool.rec (motive := fun _ => Option Nat) (ih (Nat.succ i)) (Bool.rec (motive := fun _ => Option Nat) (ih (Nat.succ i)) (some i) (freeM mm i D R all 0)) (subF A mm)) s) (ih (Nat.succ i)) (bitF mm i)) x) l
theorem findM_ok {n m mm : Nat} (hn : n = ops.size) (hm : ∀ k, mm.testBit k = true ↔ k < n ∧ m.testBit k = true) : ∀ {l : List Oper} {i0 i : Nat}, (∀ j, l[j]? = ops[i0 + j]?) → findM mm (mks md ops ops.toList) (mks md ops l) i0 = some i → i < ops.size ∧ m.testBit i = false ∧ ∃ o, ops[i]? = some o ∧ waitsOk md ops.size m o = true ∧ stillKind o.op = true ∧ freeM mm i (orL o.dst.toList) (orL (o.looksAt ops)) (mks md ops ops.toList) 0 = true
  | [], i0, i, _, h => nomatch h
  | o :: r, i0, i, hl, h => by
    have h0 : ops[i0]? = some o := by simpa using (hl 0).symm
    have hlt : i0 < ops.size := (Array.getElem?_eq_some_iff.1 h0).1
    have ih := fun h => findM_ok (l := r) (i0 := i0 + 1) (i := i) hn hm (fun j => by have := hl (j + 1); simpa [Nat.add_assoc, Nat.add_comm 1 j] using this) h
    have h' : (Bool.rec (motive := fun _ => Option Nat) (Bool.rec (motive := fun _ => Option Nat) (findM mm (mks md ops ops.toList) (mks md ops r) (i0 + 1)) (Bool.rec (motive := fun _ => Option Nat) (findM mm (mks md ops ops.toList) (mks md ops r) (i0 + 1)) (Bool.rec (motive := fun _ => Option Nat) (findM mm (mks md ops ops.toList) (mks md ops r) (i0 + 1)) (some i0) (freeM mm i0 (orL o.dst.toList) (orL (o.looksAt ops)) (mks md ops ops.toList) 0)) (subF (orL (onL md o)) mm)) (stillKind o.op)) (findM mm (mks md ops ops.toList) (mks md ops r) (i0 + 1)) (bitF mm i0) : Option Nat) = some i := h
    cases c1 : bitF mm i0 <;> rw [c1] at h' <;> simp only at h'
    · cases c2 : stillKind o.op <;> rw [c2] at h' <;> simp only at h'
      · exact ih h'
      · cases c3 : subF (orL (onL md o)) mm <;> rw [c3] at h' <;> simp only at h'
        · exact ih h'
        · cases c4 : freeM mm i0 (orL o.dst.toList) (orL (o.looksAt ops)) (mks md ops ops.toList) 0 <;> rw [c4] at h' <;> simp only at h'
          · exact ih h'
          · cases h'
            refine ⟨hlt, ?_, o, h0, by rw [← hn, ← waits_sub hm]; exact c3, c2, c4⟩
            rw [bitF_eq] at c1
            cases hb : m.testBit i0 with
            | false => rfl
            | true => rw [(hm i0).2 ⟨by omega, hb⟩] at c1; cases c1
    · exact ih h'
theorem low_bits {n m k : Nat} : (Nat.land m (Nat.sub (Nat.pow 2 n) 1)).testBit k = true ↔ k < n ∧ m.testBit k = true := by
  show (m &&& (2 ^ n - 1)).testBit k = true ↔ _
  rw [Nat.testBit_and, Nat.testBit_two_pow_sub_one, Bool.and_eq_true, decide_eq_true_eq]
  exact And.comm
noncomputable def xnext (md : Region.Mode) (ops : Array Oper) (m : Nat) : Nx :=
  natK (Nat.land m (Nat.sub (Nat.pow 2 ops.size) 1)) fun mm =>
  Option.rec (motive := fun _ => Nx) (List.rec (motive := fun _ => Nx) .done (fun a r _ => .all (a :: r)) (rdyM mm (mks md ops ops.toList) 0)) (fun i => .first i) (findM mm (mks md ops ops.toList) (mks md ops ops.toList) 0)
theorem xnext_eq (m : Nat) : xnext md ops m = match findM (Nat.land m (Nat.sub (Nat.pow 2 ops.size) 1)) (mks md ops ops.toList) (mks md ops ops.toList) 0 with
    | some i => .first i
    | none => match rdyM (Nat.land m (Nat.sub (Nat.pow 2 ops.size) 1)) (mks md ops ops.toList) 0 with
      | [] => .done
      | rs => .all rs := by
  unfold xnext
  rw [natK_eq]
  cases findM (Nat.land m (Nat.sub (Nat.pow 2 ops.size) 1)) (mks md ops ops.toList) (mks md ops ops.toList) 0 with
  | some i => rfl
  | none => cases rdyM (Nat.land m (Nat.sub (Nat.pow 2 ops.size) 1)) (mks md ops ops.toList) 0 <;> rfl
theorem rdyM_ready (m : Nat) : rdyM (Nat.land m (Nat.sub (Nat.pow 2 ops.size) 1)) (mks md ops ops.toList) 0 = Region.ready md ops (markA ops.size m) := by
  rw [rdyM_eq (n := ops.size) (m := m) (fun k => low_bits) ops.toList 0 (by simp), readyL_ready]
theorem xnext_done {m : Nat} (h : xnext md ops m = .done) : Region.ready md ops (markA ops.size m) = [] := by
  rw [xnext_eq] at h
  split at h
  · cases h
  · split at h
    · rename_i hr; rw [← rdyM_ready]; exact hr
    · cases h
theorem xnext_first {m i : Nat} (h : xnext md ops m = .first i) : i ∈ Region.ready md ops (markA ops.size m) ∧ isStill ops i = true ∧ FreeAt md ops m i := by
  rw [xnext_eq] at h
  split at h
  · rename_i k hk
    cases h
    obtain ⟨k1, k2, o, k3, k4, k5, k6⟩ := findM_ok (m := m) rfl (fun k => low_bits) (fun j => by simp) hk
    refine ⟨?_, by unfold isStill; rw [k3]; exact k5, fun oi hoi j oj hj hne hun hno => ?_⟩
    · rw [mem_ready, markA_getD, if_pos k1]
      refine ⟨k2, o, k3, fun e he hb => ?_⟩
      have := List.all_eq_true.1 k4 e (Array.mem_toList_iff.2 he)
      simp only [hb, Bool.not_true, Bool.false_or, Bool.and_eq_true] at this
      rw [markA_getD, if_pos (by simpa [Nat.blt_eq] using this.1)]
      exact this.2
    · rw [k3] at hoi; cases hoi
      have hlt := (Array.getElem?_eq_some_iff.1 hj).1
      rw [markA_getD, if_pos hlt] at hun
      refine freeM_ok k6 j oj (by simpa using hj) (by simpa using hne) ?_ hno
      rw [Nat.zero_add]
      cases hb : (Nat.land m (Nat.sub (Nat.pow 2 ops.size) 1)).testBit j with
      | false => rfl
      | true => rw [(low_bits.1 hb).2] at hun; cases hun
  · split at h <;> cases h
theorem xnext_all {m : Nat} {l : List Nat} (h : xnext md ops m = .all l) : Region.ready md ops (markA ops.size m) = l ∧ l ≠ [] := by
  rw [xnext_eq] at h
  split at h
  · cases h
  · split at h
    · cases h
    · rename_i hn
      cases h
      exact ⟨rdyM_ready (md := md) (ops := ops) m ▸ rfl, hn⟩
/-! ### new variables, that may be made early -/
def allocOf (o : Oper) : Option (TypeId × Nat) :=
  match o.op, o.guard, o.dst with
  | .alloc t, none, some d => some (t, d)
  | _, _, _ => none
theorem allocOf_ok {o : Oper} {t : TypeId} {d : Nat} (h : allocOf o = some (t, d)) : o.op = .alloc t ∧ o.guard = none ∧ o.dst = some d := by
  unfold allocOf at h
  split at h
  · rename_i h1 h2 h3; cases h; exact ⟨h1, h2, h3⟩
  · cases h
def isAlloc (ops : Array Oper) (i : Nat) : Bool := match ops[i]? with | some o => (allocOf o).isSome | none => false
/-- whatever waits for p waits for j -/
def behind (md : Region.Mode) (ops : Array Oper) (p j : Nat) : Bool :=
  (List.range ops.size).all fun t => match ops[t]? with
    | some o => !(o.after.any fun e => Region.binds md e && Nat.beq e.on p) || befBit md ops t j
    | none => true
theorem behind_ok {p j : Nat} (h : behind md ops p j = true) {t : Nat} {o : Oper} (ho : ops[t]? = some o) {e : Edge} (he : e ∈ o.after) (hb : Region.binds md e = true) (hp : e.on = p) : Reach md ops t j := by
  unfold behind at h
  have h1 := List.all_eq_true.1 h t (List.mem_range.2 (Array.getElem?_eq_some_iff.1 ho).1)
  rw [ho] at h1
  simp only [Bool.or_eq_true, Bool.not_eq_true'] at h1
  rcases h1 with h1 | h1
  · exfalso
    have : (o.after.any fun e => Region.binds md e && Nat.beq e.on p) = true := Array.any_eq_true'.2 ⟨e, he, by rw [hb, hp]; simp⟩
    rw [h1] at this; cases this
  · exact befBit_ok h1
def dstOf (ops : Array Oper) (i : Nat) : Option Nat := (ops[i]?).bind (·.dst)
theorem nbeq_false {a b : Nat} : Nat.beq a b = false ↔ a ≠ b := by
  constructor
  · rintro h rfl; rw [Nat.beq_refl] at h; cases h
  · intro h
    cases hb : Nat.beq a b with
    | false => rfl
    | true => exact absurd (Nat.eq_of_beq_eq_true hb) h
def dstNe (ops : Array Oper) (i k : Nat) : Bool :=
  match dstOf ops i, dstOf ops k with
  | some d, some d' => !(Nat.beq d d')
  | _, _ => true
theorem dstNe_ok {i k : Nat} (h : dstNe ops i k = true) {oi ok : Oper} (hi : ops[i]? = some oi) (hk : ops[k]? = some ok) {d : Nat} (hd : oi.dst = some d) : ok.dst ≠ some d := fun e => by
  unfold dstNe dstOf at h
  rw [hi, hk] at h
  simp only [Option.bind_some, hd, e] at h
  simp at h
theorem dstNe_comm {i k : Nat} (h : dstNe ops i k = true) : dstNe ops k i = true := by
  unfold dstNe at *
  cases h1 : dstOf ops i with
  | none => cases h2 : dstOf ops k <;> rfl
  | some d =>
    cases h2 : dstOf ops k with
    | none => rfl
    | some d' =>
      rw [h1, h2] at h
      simp only [Bool.not_eq_true'] at h ⊢
      rw [nbeq_false] at h ⊢
      exact fun e => h e.symm
def apartD (ops : Array Oper) : List Nat → Bool
  | [] => true
  | i :: r => r.all (dstNe ops i) && apartD ops r
theorem apartD_ok : ∀ {l : List Nat}, apartD ops l = true → ∀ i ∈ l, ∀ k ∈ l, i ≠ k → dstNe ops i k = true
  | [], _, i, hi, _, _, _ => nomatch hi
  | x :: r, h, i, hi, k, hk, hne => by
    simp only [apartD, Bool.and_eq_true, List.all_eq_true] at h
    rcases List.mem_cons.1 hi with rfl | hi' <;> rcases List.mem_cons.1 hk with rfl | hk'
    · exact absurd rfl hne
    · exact h.1 k hk'
    · exact dstNe_comm (h.1 i hi')
    · exact apartD_ok h.2 i hi' k hk' hne
/-- the one that may be taken, of those that are ready -/
def xpick (md : Region.Mode) (ops : Array Oper) (rs : List Nat) : Option Nat :=
  match rs with
  | [i] => some i
  | _ => match rs.filter (fun i => !isAlloc ops i) with
    | [j] => if (apartD ops rs && (rs.filter (isAlloc ops)).all (fun p => behind md ops p j)) = true then some j else none
    | _ => none
theorem xpick_ok {rs : List Nat} {j : Nat} (h : xpick md ops rs = some j) : rs = [j] ∨ (j ∈ rs ∧ isAlloc ops j = false ∧ apartD ops rs = true ∧ ∀ p ∈ rs, p ≠ j → isAlloc ops p = true ∧ behind md ops p j = true) := by
  unfold xpick at h
  split at h
  · cases h; exact .inl rfl
  · split at h
    · rename_i hn k hk
      split at h
      · rename_i hc
        cases h
        simp only [Bool.and_eq_true, List.all_eq_true] at hc
        have hj : j ∈ rs.filter (fun i => !isAlloc ops i) := by rw [hk]; exact List.mem_cons_self
        obtain ⟨j1, j2⟩ := List.mem_filter.1 hj
        refine .inr ⟨j1, by simpa using j2, hc.1, fun p hp hne => ?_⟩
        have ha : isAlloc ops p = true := by
          cases hb : isAlloc ops p with
          | true => rfl
          | false =>
            have : p ∈ rs.filter (fun i => !isAlloc ops i) := List.mem_filter.2 ⟨hp, by simp [hb]⟩
            rw [hk] at this
            exact absurd (List.mem_singleton.1 this) hne
        exact ⟨ha, hc.2 p (List.mem_filter.2 ⟨hp, ha⟩)⟩
      · cases h
    · cases h
/-- those that may be made early -/
def pendL (ops : Array Oper) (rs : List Nat) (j : Nat) : List Nat := rs.filter fun i => !(Nat.beq i j)
def pendD (ops : Array Oper) (rs : List Nat) (j : Nat) : List Nat := (pendL ops rs j).filterMap (dstOf ops)
theorem mem_pendL {rs : List Nat} {j p : Nat} : p ∈ pendL ops rs j ↔ p ∈ rs ∧ p ≠ j := by
  unfold pendL
  rw [List.mem_filter, Bool.not_eq_true', nbeq_false]
/-! ### what has come up, as bits -/
theorem markA_congr {n x y : Nat} (h : ∀ i, i < n → x.testBit i = y.testBit i) : markA n x = markA n y := by
  unfold markA
  congr 1
  exact List.map_congr_left fun i hi => h i (List.mem_range.1 hi)
theorem rdy_iff {m i : Nat} : i ∈ Region.ready md ops (markA ops.size m) ↔ i < ops.size ∧ m.testBit i = false ∧ ∃ o, ops[i]? = some o ∧ ∀ e ∈ o.after, Region.binds md e = true → e.on < ops.size ∧ m.testBit e.on = true := by
  rw [mem_ready]
  constructor
  · rintro ⟨h1, o, ho, h2⟩
    have hi := (Array.getElem?_eq_some_iff.1 ho).1
    rw [markA_getD, if_pos hi] at h1
    refine ⟨hi, h1, o, ho, fun e he hb => ?_⟩
    have := h2 e he hb
    rw [markA_getD] at this
    split at this
    · exact ⟨by assumption, this⟩
    · cases this
  · rintro ⟨hi, h1, o, ho, h2⟩
    refine ⟨by rw [markA_getD, if_pos hi]; exact h1, o, ho, fun e he hb => ?_⟩
    obtain ⟨k1, k2⟩ := h2 e he hb
    rw [markA_getD, if_pos k1]; exact k2
def bitsE (D : List (Nat × Nat)) (m : Nat) : Nat := D.foldr (fun p m => m ||| (1 <<< p.1)) m
theorem test_or {m i k : Nat} : (m ||| (1 <<< i)).testBit k = (m.testBit k || decide (i = k)) := by
  rw [Nat.testBit_or, Nat.one_shiftLeft, Nat.testBit_two_pow]
theorem bitsE_test : ∀ {D : List (Nat × Nat)} {m k : Nat}, (bitsE D m).testBit k = true ↔ m.testBit k = true ∨ ∃ p ∈ D, p.1 = k
  | [], m, k => by simp [bitsE]
  | q :: D, m, k => by
    show ((bitsE D m) ||| (1 <<< q.1)).testBit k = true ↔ _
    rw [test_or, Bool.or_eq_true, bitsE_test]
    simp only [decide_eq_true_eq, List.mem_cons, exists_eq_or_imp]
    constructor
    · rintro ((h | h) | h)
      · exact .inl h
      · exact .inr (.inr h)
      · exact .inr (.inl h)
    · rintro (h | h | h)
      · exact .inl (.inl h)
      · exact .inr h
      · exact .inl (.inr h)
theorem bool_iff {a b : Bool} (h : a = true ↔ b = true) : a = b := by cases a <;> cases b <;> simp_all
theorem bitsE_or {D : List (Nat × Nat)} {m i k : Nat} : (bitsE D (m ||| (1 <<< i))).testBit k = (bitsE D m ||| (1 <<< i)).testBit k := by
  apply bool_iff
  rw [bitsE_test, test_or, test_or, Bool.or_eq_true, Bool.or_eq_true, bitsE_test]
  constructor
  · rintro ((h | h) | h)
    · exact .inl (.inl h)
    · exact .inr h
    · exact .inl (.inr h)
  · rintro ((h | h) | h)
    · exact .inl (.inl h)
    · exact .inr h
    · exact .inl (.inr h)
/-- how many have not come up -/
def cnt : Nat → Nat → Nat
  | 0, _ => 0
  | n + 1, m => cnt n m + (if m.testBit n = true then 0 else 1)
theorem cnt_le_n : ∀ n m, cnt n m ≤ n
  | 0, m => Nat.le_refl _
  | n + 1, m => by have := cnt_le_n n m; simp only [cnt]; split <;> omega
theorem cnt_mono : ∀ {n m m' : Nat}, (∀ k, k < n → m.testBit k = true → m'.testBit k = true) → cnt n m' ≤ cnt n m
  | 0, m, m', _ => Nat.le_refl _
  | n + 1, m, m', h => by
    have := cnt_mono (n := n) (m := m) (m' := m') fun k hk => h k (by omega)
    have h2 := h n (by omega)
    simp only [cnt]
    split <;> split <;> first | omega | simp_all
theorem cnt_lt : ∀ {n m m' i : Nat}, (∀ k, k < n → m.testBit k = true → m'.testBit k = true) → i < n → m.testBit i = false → m'.testBit i = true → cnt n m' < cnt n m
  | 0, m, m', i, _, hi, _, _ => by omega
  | n + 1, m, m', i, h, hi, h1, h2 => by
    simp only [cnt]
    by_cases e : i = n
    · subst e
      have := cnt_mono (n := i) (m := m) (m' := m') fun k hk => h k (by omega)
      rw [h2, h1]; simp; omega
    · have := cnt_lt (n := n) (m := m) (m' := m') (i := i) (fun k hk => h k (by omega)) (by omega) h1 h2
      have h3 := h n (by omega)
      split <;> split <;> first | omega | simp_all
theorem cnt_pos {n m i : Nat} (hi : i < n) (h : m.testBit i = false) : 0 < cnt n m := by
  have := cnt_lt (n := n) (m := m) (m' := m ||| (1 <<< i)) (i := i) (fun k _ hk => by rw [test_or, hk]; rfl) hi h (by rw [test_or]; simp)
  omega
/-- is there never a choice? -/
noncomputable def xlinear (md : Region.Mode) (ops : Array Oper) : Nat → Nat → Bool
  | 0, _ => true
  | n + 1, m => match xnext md ops m with
    | .done => true
    | .first i => natK (m ||| (1 <<< i)) fun m => xlinear md ops n m
    | .all rs => match xpick md ops rs with
      | some i => natK (m ||| (1 <<< i)) fun m => xlinear md ops n m
      | none => false
end
end Go.Proofs.YtkogjjeoihnjpaaGreat.Sx
end
