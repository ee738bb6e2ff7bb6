/- A program run on terms: a function's answer as a function on numbers; two functions that answer alike; such an answer as a contract. No condition. A program run on terms: a function that answers one truth wherever something is known. No condition. -/
import Derived.Test.YtkogjjeoihnjpaaGreatPack7
section
set_option linter.unusedVariables false
set_option linter.unusedSimpArgs false
namespace Go.Proofs.YtkogjjeoihnjpaaGreat.Sx
open Go Go.RowKit
noncomputable section
def envA (ft : Ft) (args : List Int) : Env := ⟨fun i => args.getD i 0, fun _ => false, fun _ => Go.undef, ft⟩
def hpF (fk : Ks) : Hp := ⟨[], 1000, 1606938044258990275541962092341162602522202993782792835301376, [], ⟨fk, [], []⟩⟩
theorem ev_env0 (ft : Ft) (args : List Int) : ∀ e : E, e.ev (envA ft args) = e.ev (env0 args)
  | .lit _ => rfl
  | .var _ _ _ => rfl
  | .bin _ _ a b => by simp only [E.ev, ev_env0 ft args a, ev_env0 ft args b]
  | .pl _ a b => by simp only [E.ev, ev_env0 ft args a, ev_env0 ft args b]
  | .cast _ a => by simp only [E.ev, ev_env0 ft args a]
  | .ite c a b => by simp only [E.ev, ev_env0 ft args c, ev_env0 ft args a, ev_env0 ft args b]
  | .tt _ => rfl
  | .bvar _ => rfl
  | .cmp _ a b => by simp only [E.ev, ev_env0 ft args a, ev_env0 ft args b]
  | .no a => by simp only [E.ev, ev_env0 ft args a]
  | .ix n s a => by simp only [E.ev, ev_env0 ft args a]; rfl
theorem KsOk.env {ft : Ft} {args : List Int} {k : Ks} (h : KsOk (env0 args) k) : KsOk (envA ft args) k := fun q hq => by
  have := h q hq
  unfold E.tr at *
  rw [ev_env0]; exact this
/-! ### other terms put for the variables -/
def plF (op : BinOp) (a b : E) : E :=
  match a, b with
  | .lit x, .lit y => .lit (plD op x y)
  | a, .lit (.ofNat n) => (match op with
    | .rem => (match resN a n with
      | some j => .lit (.ofNat j)
      | none => .pl .rem a (.lit (.ofNat n)))
    | op => .pl op a (.lit (.ofNat n)))
  | a, b => .pl op a b
def E.sb (σ : List E) : E → E
  | .lit n => .lit n
  | .var _ _ i => σ.getD i (.lit 0)
  | .bin op k a b => mkBin op k (a.sb σ) (b.sb σ)
  | .pl op a b => plF op (a.sb σ) (b.sb σ)
  | .cast k a => mkCast k (a.sb σ)
  | .ite c a b => .ite (c.sb σ) (a.sb σ) (b.sb σ)
  | .tt b => .tt b
  | .bvar i => .bvar i
  | .cmp op a b => mkCmp op (a.sb σ) (b.sb σ)
  | .no a => mkNo (a.sb σ)
  | .ix n s a => .ix n s a
/-- is it a number (a test) of these variables alone? -/
def scTy (rs : List (Int × Int)) : Bool → E → Bool
  | false, .lit _ => true
  | false, .var lo hi i => match rs[i]? with
    | some (l, h) => bif decide (lo ≤ l) then decide (h ≤ hi) else false
    | none => false
  | false, .bin _ _ a b => bif scTy rs false a then scTy rs false b else false
  | false, .pl _ a b => bif scTy rs false a then scTy rs false b else false
  | false, .cast _ a => scTy rs false a
  | t, .ite c a b => bif scTy rs true c then (bif scTy rs t a then scTy rs t b else false) else false
  | true, .tt _ => true
  | true, .cmp _ a b => bif scTy rs false a then scTy rs false b else false
  | true, .no a => scTy rs true a
  | _, _ => false
theorem plF_ok (op : BinOp) {a b : E} {V : Env} {d : Nat → Prop} (ha : a.sc V d) (hb : b.sc V d) : (plF op a b).sc V d ∧ (plF op a b).den V = plD op (a.den V) (b.den V) := by
  unfold plF
  split
  · exact ⟨trivial, rfl⟩
  · split
    · split
      · rename_i j hj
        exact ⟨trivial, (resN_ok V hj).symm⟩
      · exact ⟨⟨ha, hb⟩, rfl⟩
    · exact ⟨⟨ha, hb⟩, rfl⟩
  · exact ⟨⟨ha, hb⟩, rfl⟩
theorem sb_ok {V : Env} {d : Nat → Prop} {σ : List E} {rs : List (Int × Int)} (hσ : ∀ e ∈ σ, e.sc V d) (hl : σ.length = rs.length) : ∀ {e : E} {t : Bool}, scTy rs t e = true →
    (e.sb σ).sc V d ∧ (t = false → (e.sb σ).den V = e.den (env0 (σ.map (E.den V)))) ∧ (t = true → (e.sb σ).tr V = e.tr (env0 (σ.map (E.den V))))
  | .lit _, t, h => by cases t <;> first | (cases h; done) | exact ⟨trivial, fun _ => rfl, fun e => nomatch e⟩
  | .var lo hi i, t, h => by
    cases t <;> first | (cases h; done) | skip
    unfold scTy at h
    split at h
    · rename_i l u hr
      have hi : i < σ.length := by rw [hl]; exact (List.getElem?_eq_some_iff.1 hr).1
      have e1 : σ.getD i (.lit 0) = σ[i] := by simp [List.getD, hi]
      refine ⟨by unfold E.sb; rw [e1]; exact hσ _ (List.getElem_mem hi), fun _ => ?_, fun e => nomatch e⟩
      unfold E.sb
      rw [e1, den_var]
      show _ = (σ.map (E.den V)).getD i 0
      simp [List.getD, hi]
    · cases h
  | .bin op k a b, t, h => by
    cases t <;> first | (cases h; done) | skip
    obtain ⟨h1, h2⟩ := and_bif h
    obtain ⟨a1, a2, _⟩ := sb_ok hσ hl h1; obtain ⟨b1, b2, _⟩ := sb_ok hσ hl h2
    obtain ⟨c1, c2⟩ := mkBin_ok op k a1 b1
    exact ⟨c1, fun _ => by rw [den_bin, ← a2 rfl, ← b2 rfl]; exact c2, fun e => nomatch e⟩
  | .pl op a b, t, h => by
    cases t <;> first | (cases h; done) | skip
    obtain ⟨h1, h2⟩ := and_bif h
    obtain ⟨a1, a2, _⟩ := sb_ok hσ hl h1; obtain ⟨b1, b2, _⟩ := sb_ok hσ hl h2
    obtain ⟨c1, c2⟩ := plF_ok op a1 b1
    exact ⟨c1, fun _ => by rw [den_pl, ← a2 rfl, ← b2 rfl]; exact c2, fun e => nomatch e⟩
  | .cast k a, t, h => by
    cases t <;> first | (cases h; done) | skip
    obtain ⟨a1, a2, _⟩ := sb_ok (e := a) hσ hl (t := false) h
    obtain ⟨c1, c2⟩ := mkCast_ok k a1
    exact ⟨c1, fun _ => by rw [den_cast, ← a2 rfl]; exact c2, fun e => nomatch e⟩
  | .ite c a b, t, h => by
    have h : (bif scTy rs true c then (bif scTy rs t a then scTy rs t b else false) else false) = true := by cases t <;> exact h
    obtain ⟨h1, h2⟩ := and_bif h; obtain ⟨h2, h3⟩ := and_bif h2
    obtain ⟨c1, _, c3⟩ := sb_ok hσ hl h1
    obtain ⟨a1, a2, a3⟩ := sb_ok hσ hl h2; obtain ⟨b1, b2, b3⟩ := sb_ok hσ hl h3
    refine ⟨⟨c1, a1, b1⟩, fun e => ?_, fun e => ?_⟩
    · show (E.ite (c.sb σ) (a.sb σ) (b.sb σ)).den V = _
      rw [den_ite, den_ite, c3 rfl, a2 e, b2 e]
    · show (E.ite (c.sb σ) (a.sb σ) (b.sb σ)).tr V = _
      rw [tr_ite, tr_ite, c3 rfl, a3 e, b3 e]
  | .tt _, t, h => by cases t <;> first | (cases h; done) | exact ⟨trivial, (fun e => nomatch e), fun _ => rfl⟩
  | .bvar _, t, h => by cases t <;> cases h
  | .cmp op a b, t, h => by
    cases t <;> first | (cases h; done) | skip
    obtain ⟨h1, h2⟩ := and_bif h
    obtain ⟨a1, a2, _⟩ := sb_ok hσ hl h1; obtain ⟨b1, b2, _⟩ := sb_ok hσ hl h2
    obtain ⟨c1, c2⟩ := mkCmp_ok op a1 b1
    exact ⟨c1, (fun e => nomatch e), fun _ => by rw [tr_cmp, ← a2 rfl, ← b2 rfl]; exact c2⟩
  | .no a, t, h => by
    cases t <;> first | (cases h; done) | skip
    obtain ⟨a1, _, a3⟩ := sb_ok (e := a) hσ hl (t := true) h
    obtain ⟨c1, c2⟩ := mkNo_ok a1
    exact ⟨c1, (fun e => nomatch e), fun _ => by rw [tr_no, ← a3 rfl]; exact c2⟩
  | .ix _ _ _, t, h => by cases t <;> cases h
/-- 'a is not n, or what stands where a is n is v': known at once -/
def quickH : E → Bool
  | .ite (.cmp o a (.lit n)) (.tt true) (.cmp o2 (.ite (.cmp o' a' (.lit n')) v x) v') =>
    bif Nat.beq (opN o) 12 then (bif Nat.beq (opN o2) 11 then (bif Nat.beq (opN o') 11 then (bif decide (n = n') then (bif eEq a a' then eEq v v' else false) else false) else false) else false) else false
  | _ => false
theorem quickH_ok {V : Env} : ∀ {e : E}, quickH e = true → e.tr V = true := by
  intro e h
  unfold quickH at h
  split at h
  · rename_i o a n o2 o' a' n' v x v'
    obtain ⟨h1, h⟩ := and_bif h
    obtain ⟨h2, h⟩ := and_bif h
    obtain ⟨h3, h⟩ := and_bif h
    obtain ⟨h4, h⟩ := and_bif h
    obtain ⟨h5, h6⟩ := and_bif h
    have h1 : o = .neq := opN_inj (b := .neq) h1
    have h2 : o2 = .eql := opN_inj (b := .eql) h2
    have h3 : o' = .eql := opN_inj (b := .eql) h3
    have h4 := of_decide_eq_true h4
    subst h1; subst h2; subst h3; subst h4
    have h5 := eEq_den h5 (V := V)
    have h6 := eEq_den h6 (V := V)
    simp only [tr_ite, tr_cmp, den_ite, den_lit, tr_tt, cmpD, ← h5, ← h6]
    cases hh : (a.den V == n) <;> simp [hh, bne]
  · cases h
/-- is it known as it stands, or else by what is known? -/
def lookH (k : Ks) (e : E) : Option Bool :=
  match quickH e with
  | true => some true
  | false => match lookX e k with
    | some x => some x
    | none => knownF k e
theorem lookH_ok {V : Env} {d : Nat → Prop} {k : Ks} (hk : KsOk V k) {c : E} {b : Bool} (hs : c.sc V d) (h : lookH k c = some b) : c.tr V = b := by
  unfold lookH at h
  split at h
  · rename_i hq; cases h; exact quickH_ok hq
  · split at h
    · rename_i x hx; cases h; exact lookX_ok hk hx
    · exact knownF_ok hk hs h
/-- a test that stands among what is known, or its contrary does -/
def lkC (k : Ks) (c : E) : Option Bool :=
  match c with
  | .tt b => some b
  | .cmp op a b => (match lookX (.cmp op a b) k with
    | some x => some x
    | none => (match op with
      | .neq => (match lookX (.cmp .eql a b) k with
        | some x => some (!x)
        | none => none)
      | .eql => (match lookX (.cmp .neq a b) k with
        | some x => some (!x)
        | none => none)
      | _ => none))
  | .ite c a b => (match lkC k c with
    | some true => lkC k a
    | some false => lkC k b
    | none => lookX (.ite c a b) k)
  | c => lookX c k
theorem lkC_ok {V : Env} {k : Ks} (hk : KsOk V k) : ∀ {c : E} {b : Bool}, lkC k c = some b → c.tr V = b := by
  intro c b h
  unfold lkC at h
  split at h
  · cases h; rfl
  · rename_i op a a'
    split at h
    · rename_i x hx; cases h; exact lookX_ok hk hx
    · split at h
      · split at h
        · rename_i x hx
          cases h
          have := lookX_ok hk hx
          rw [tr_cmp] at this ⊢
          simp only [cmpD, bne] at this ⊢
          rw [this]
        · cases h
      · split at h
        · rename_i x hx
          cases h
          have := lookX_ok hk hx
          rw [tr_cmp] at this ⊢
          simp only [cmpD, bne] at this ⊢
          rw [← this, Bool.not_not]
        · cases h
      · cases h
  · rename_i c a b'
    split at h
    · rename_i hc; rw [tr_ite, lkC_ok hk hc, if_pos rfl]; exact lkC_ok hk h
    · rename_i hc; rw [tr_ite, lkC_ok hk hc, if_neg (by decide)]; exact lkC_ok hk h
    · exact lookX_ok hk h
  · exact lookX_ok hk h
/-- 'it is so, or c': c is not so -/
def hitI (k : Ks) (e : E) : E → Bool
  | .ite c (.tt true) x => (match lkC k c with
    | some false => hitI k e x
    | _ => eEq (.ite c (.tt true) x) e)
  | x => eEq x e
theorem hitI_ok {V : Env} {k : Ks} (hk : KsOk V k) {e : E} : ∀ {x : E}, x.tr V = true → hitI k e x = true → e.tr V = true := by
  intro x
  induction x with
  | ite c a b _ _ ih =>
    intro hx h
    unfold hitI at h
    split at h
    · rename_i c' x' heq
      cases heq
      split at h
      · rename_i hc
        rw [tr_ite, lkC_ok hk hc] at hx
        exact ih (by simpa using hx) h
      · rw [← eEq_tr h]; exact hx
    · rw [← eEq_tr h]; exact hx
  | lit _ => intro hx h; rw [← eEq_tr (show eEq _ _ = true from h)]; exact hx
  | var _ _ _ => intro hx h; rw [← eEq_tr (show eEq _ _ = true from h)]; exact hx
  | bin _ _ _ _ _ _ => intro hx h; rw [← eEq_tr (show eEq _ _ = true from h)]; exact hx
  | pl _ _ _ _ _ => intro hx h; rw [← eEq_tr (show eEq _ _ = true from h)]; exact hx
  | cast _ _ _ => intro hx h; rw [← eEq_tr (show eEq _ _ = true from h)]; exact hx
  | tt _ => intro hx h; rw [← eEq_tr (show eEq _ _ = true from h)]; exact hx
  | bvar _ => intro hx h; rw [← eEq_tr (show eEq _ _ = true from h)]; exact hx
  | cmp _ _ _ _ _ => intro hx h; rw [← eEq_tr (show eEq _ _ = true from h)]; exact hx
  | no _ _ => intro hx h; rw [← eEq_tr (show eEq _ _ = true from h)]; exact hx
  | ix _ _ _ _ => intro hx h; rw [← eEq_tr (show eEq _ _ = true from h)]; exact hx
def anyI (k : Ks) (e : E) : Ks → Bool
  | [] => false
  | (.ite c t x, true) :: r => bif hitI k e (.ite c t x) then true else anyI k e r
  | _ :: r => anyI k e r
theorem anyI_ok {V : Env} {k : Ks} (hk : KsOk V k) {e : E} : ∀ {l : Ks}, KsOk V l → anyI k e l = true → e.tr V = true
  | [], _, h => nomatch h
  | (x, b) :: r, hl, h => by
    unfold anyI at h
    split at h
    · cases h
    · rename_i c t x' r' heq
      cases heq
      cases hh : hitI k e (.ite c t x') with
      | true => exact hitI_ok hk (hl _ List.mem_cons_self) hh
      | false => rw [hh, cond_false] at h; exact anyI_ok hk hl.tail h
    · rename_i heq
      cases heq
      exact anyI_ok hk hl.tail h
/-- the same, where what is known may be 'it is so, or c' -/
def decB (k : Ks) (e : E) : Option Bool :=
  match lookH k e with
  | some x => some x
  | none => (match lkC k e with
    | some x => some x
    | none => bif anyI k e k then some true else none)
theorem decB_ok {V : Env} {d : Nat → Prop} {e : E} {k : Ks} {b : Bool} (hk : KsOk V k) (hs : e.sc V d) (h : decB k e = some b) : e.tr V = b := by
  unfold decB at h
  split at h
  · rename_i x hx; cases h; exact lookH_ok hk hs hx
  · split at h
    · rename_i x hx; cases h; exact lkC_ok hk hx
    · cases ha : anyI k e k with
      | true => rw [ha, cond_true] at h; cases h; exact anyI_ok hk hk ha
      | false => rw [ha, cond_false] at h; cases h
/-- a + n = b + n, for a = b is known -/
def congB (k : Ks) : E → Bool
  | .cmp .eql (.bin .add .u64 a (.lit n)) (.bin .add .u64 b (.lit n')) => bif decide (n = n') then (match decB k (.cmp .eql a b) with
    | some true => true
    | _ => false) else false
  | _ => false
theorem congB_ok {V : Env} {d : Nat → Prop} {e : E} {k : Ks} (hk : KsOk V k) (hs : e.sc V d) (h : congB k e = true) : e.tr V = true := by
  unfold congB at h
  split at h
  · rename_i a n b n'
    obtain ⟨h1, h2⟩ := and_bif h
    have h1 := of_decide_eq_true h1
    subst h1
    split at h2
    · rename_i hb
      have := decB_ok (e := .cmp .eql a b) hk (show _ ∧ _ from ⟨hs.1.1, hs.2.1⟩) hb
      rw [tr_cmp] at this ⊢
      simp only [cmpD, beq_iff_eq] at this ⊢
      rw [den_bin, den_bin, this]
    · cases h2
  · cases h
/-- where c is not known, both ways with it -/
def decI (k : Ks) : E → Option Bool
  | .ite c a b => (match decB k (.ite c a b) with
    | some x => some x
    | none => (match decI k c with
      | some true => decI k a
      | some false => decI k b
      | none => (match decI ((c, true) :: k) a, decI ((c, false) :: k) b with
        | some x, some y => bif blSame x y then some x else none
        | _, _ => none)))
  | e => (match decB k e with
    | some x => some x
    | none => bif congB k e then some true else none)
theorem KsOk.cons {V : Env} {k : Ks} {c : E} {b : Bool} (h : c.tr V = b) (hk : KsOk V k) : KsOk V ((c, b) :: k) := fun q hq => by
  rcases List.mem_cons.1 hq with rfl | hq
  · exact h
  · exact hk q hq
theorem decI_ok {V : Env} {d : Nat → Prop} : ∀ {e : E} {k : Ks} {b : Bool}, KsOk V k → e.sc V d → decI k e = some b → e.tr V = b := by
  have base : ∀ {e : E} {k : Ks} {b : Bool}, KsOk V k → e.sc V d → (match decB k e with
    | some x => some x
    | none => bif congB k e then some true else none) = some b → e.tr V = b := fun {e k b} hk hs h => by
    split at h
    · rename_i x hx; cases h; exact decB_ok hk hs hx
    · cases ha : congB k e with
      | true => rw [ha, cond_true] at h; cases h; exact congB_ok hk hs ha
      | false => rw [ha, cond_false] at h; cases h
  intro e
  induction e with
  | ite c a a' ihc iha ihb =>
    intro k b hk hs h
    unfold decI at h
    split at h
    · rename_i x hx; cases h; exact decB_ok hk hs hx
    · rw [tr_ite]
      split at h
      · rename_i hc; rw [ihc hk hs.1 hc, if_pos rfl]; exact iha hk hs.2.1 h
      · rename_i hc; rw [ihc hk hs.1 hc, if_neg (by decide)]; exact ihb hk hs.2.2 h
      · split at h
        · rename_i x y h1 h2
          cases hb : blSame x y with
          | true =>
            rw [hb, cond_true] at h; cases h
            cases hc : c.tr V with
            | true => rw [if_pos rfl]; exact iha (hk.cons hc) hs.2.1 h1
            | false => rw [if_neg (by decide), blSame_ok hb]; exact ihb (hk.cons hc) hs.2.2 h2
          | false => rw [hb, cond_false] at h; cases h
        · cases h
  | lit _ => intro k b hk hs h; exact base hk hs h
  | var _ _ _ => intro k b hk hs h; exact base hk hs h
  | bin _ _ _ _ _ _ => intro k b hk hs h; exact base hk hs h
  | pl _ _ _ _ _ => intro k b hk hs h; exact base hk hs h
  | cast _ _ _ => intro k b hk hs h; exact base hk hs h
  | tt _ => intro k b hk hs h; exact base hk hs h
  | bvar _ => intro k b hk hs h; exact base hk hs h
  | cmp _ _ _ _ _ => intro k b hk hs h; exact base hk hs h
  | no _ _ => intro k b hk hs h; exact base hk hs h
  | ix _ _ _ _ => intro k b hk hs h; exact base hk hs h
/-- are these tests so, of these terms? -/
def holdsB (k : Ks) (σ : List E) : Ks → Bool
  | [] => true
  | (e, b) :: r => (match decI k (e.sb σ) with
    | some x => bif blSame x b then holdsB k σ r else false
    | none => false)
theorem holdsB_ok {V : Env} {d : Nat → Prop} {k : Ks} (hk : KsOk V k) {σ : List E} {rs : List (Int × Int)} (hσ : ∀ e ∈ σ, e.sc V d) (hl : σ.length = rs.length) : ∀ {o : Ks}, o.all (fun q => scTy rs true q.1) = true → holdsB k σ o = true → KsOk (env0 (σ.map (E.den V))) o
  | [], _, _ => fun q hq => nomatch hq
  | (e, b) :: r, h1, h2 => by
    simp only [List.all_cons, Bool.and_eq_true] at h1
    unfold holdsB at h2
    split at h2
    · rename_i x hx
      obtain ⟨h3, h4⟩ := and_bif h2
      obtain ⟨s1, _, s3⟩ := sb_ok hσ hl h1.1
      intro q hq
      rcases List.mem_cons.1 hq with rfl | hq
      · show e.tr _ = b
        rw [← s3 rfl, decI_ok hk s1 hx, blSame_ok h3]
      · exact holdsB_ok hk hσ hl h1.2 h4 q hq
    · cases h2
theorem scB_ok {ft : Ft} {rs : List (Int × Int)} {args : List Int} (h : InB rs args) {d : Nat → Prop} (hd : ∀ i, i < rs.length → d i) : ∀ {e : E}, scB rs e = true → e.sc (envA ft args) d
  | .lit _, _ => trivial
  | .var lo hi i, hb => by
    unfold scB at hb
    split at hb
    · rename_i l u hr
      obtain ⟨h1, h2⟩ := and_bif hb
      have h1 := of_decide_eq_true h1
      have h2 := of_decide_eq_true h2
      have := inB_get h hr
      refine ⟨hd i (List.getElem?_eq_some_iff.1 hr).1, ?_, ?_⟩
      · show lo ≤ args.getD i 0; simp only at this; omega
      · show args.getD i 0 ≤ hi; simp only at this; omega
    · cases hb
  | .bin _ _ a b, hb => by obtain ⟨h1, h2⟩ := and_bif hb; exact ⟨scB_ok h hd h1, scB_ok h hd h2⟩
  | .pl _ a b, hb => by obtain ⟨h1, h2⟩ := and_bif hb; exact ⟨scB_ok h hd h1, scB_ok h hd h2⟩
  | .cast _ a, hb => scB_ok (e := a) h hd hb
  | .ite c a b, hb => by obtain ⟨h1, h2⟩ := and_bif hb; obtain ⟨h2, h3⟩ := and_bif h2; exact ⟨scB_ok h hd h1, scB_ok h hd h2, scB_ok h hd h3⟩
  | .tt _, _ => trivial
  | .bvar _, hb => nomatch hb
  | .cmp _ a b, hb => by obtain ⟨h1, h2⟩ := and_bif hb; exact ⟨scB_ok h hd h1, scB_ok h hd h2⟩
  | .no a, hb => scB_ok (e := a) h hd hb
  | .ix _ _ _, hb => nomatch hb
/-- one less than what is not 0 -/
def subR (k : Ks) (l h : Int) : E → Bool
  | .bin .sub .u64 a (.lit (.ofNat 1)) => (match a.rng with
    | some (l', h') => bif decide (0 ≤ l') then (bif decide (h' ≤ 18446744073709551615) then (bif decide (l ≤ 0) then (bif decide (h' - 1 ≤ h) then nzF k a else false) else false) else false) else false
    | none => false)
  | _ => false
theorem subR_ok {V : Env} {d : Nat → Prop} {k : Ks} (hk : KsOk V k) {l h : Int} {e : E} (hs : e.sc V d) (hb : subR k l h e = true) : l ≤ e.den V ∧ e.den V ≤ h := by
  unfold subR at hb
  split at hb
  · rename_i a
    split at hb
    · rename_i l' h' hr
      obtain ⟨h1, hb⟩ := and_bif hb
      obtain ⟨h2, hb⟩ := and_bif hb
      obtain ⟨h3, hb⟩ := and_bif hb
      obtain ⟨h4, h5⟩ := and_bif hb
      have h1 := of_decide_eq_true h1
      have h2 := of_decide_eq_true h2
      have h3 := of_decide_eq_true h3
      have h4 := of_decide_eq_true h4
      have hn := nzF_ok hk hs.1 h5
      have hr := E.rng_ok V d a l' h' hs.1 hr
      have e1 : (E.bin .sub .u64 a (.lit (.ofNat 1))).den V = a.den V - 1 := by
        rw [den_bin, den_lit]
        show IntKind.u64.wrap (a.den V - Int.ofNat 1) = _
        simp only [Int.ofNat_eq_natCast]
        exact wrap_in .u64 _ (by show (0 : Int) ≤ _; omega) (by show _ ≤ (18446744073709551615 : Int); omega)
      rw [e1]
      omega
    · cases hb
  · cases hb
/-- is it between these bounds? by itself, or by what is known -/
def inR1 (k : Ks) (l h : Int) (e : E) : Bool :=
  match (match e.rng with
    | some (l', h') => (bif decide (l ≤ l') then decide (h' ≤ h) else false)
    | none => false) with
  | true => true
  | false => match rngF k e with
    | some (l', h') => bif (bif decide (l ≤ l') then decide (h' ≤ h) else false) then true else subR k l h e
    | none => subR k l h e
theorem inR1_ok {V : Env} {d : Nat → Prop} {k : Ks} (hk : KsOk V k) {l h : Int} {e : E} (hs : e.sc V d) (hb : inR1 k l h e = true) : l ≤ e.den V ∧ e.den V ≤ h := by
  unfold inR1 at hb
  split at hb
  · rename_i hr
    split at hr
    · rename_i l' h' hr'
      obtain ⟨h1, h2⟩ := and_bif hr
      have h1 := of_decide_eq_true h1
      have h2 := of_decide_eq_true h2
      have := E.rng_ok V d e l' h' hs hr'
      omega
    · cases hr
  · split at hb
    · rename_i l' h' hr'
      cases hh : (bif decide (l ≤ l') then decide (h' ≤ h) else false) with
      | true =>
        obtain ⟨h1, h2⟩ := and_bif hh
        have h1 := of_decide_eq_true h1
        have h2 := of_decide_eq_true h2
        have := rngF_ok hk hs _ _ hr'
        omega
      | false => rw [hh, cond_false] at hb; exact subR_ok hk hs hb
    · exact subR_ok hk hs hb
/-- are they between these bounds? -/
def inRs (k : Ks) : List (Int × Int) → List E → Bool
  | [], [] => true
  | (l, h) :: rs, e :: es => bif inR1 k l h e then inRs k rs es else false
  | _, _ => false
theorem inRs_ok {V : Env} {d : Nat → Prop} {k : Ks} (hk : KsOk V k) : ∀ {rs : List (Int × Int)} {es : List E}, inRs k rs es = true → (∀ e ∈ es, e.sc V d) → InB rs (es.map (E.den V))
  | [], [], _, _ => ⟨rfl, fun j r n h => by simp at h⟩
  | (l, h) :: rs, e :: es, hb, hs => by
    unfold inRs at hb
    obtain ⟨h1, hb⟩ := and_bif hb
    obtain ⟨m1, m2⟩ := inRs_ok hk hb fun x hx => hs x (List.mem_cons_of_mem _ hx)
    have := inR1_ok hk (hs e List.mem_cons_self) h1
    refine ⟨by simp at m1 ⊢; exact m1, fun j r n hj hn => ?_⟩
    cases j with
    | zero =>
      simp only [List.getElem?_cons_zero, Option.some.injEq, List.map_cons] at hj hn
      subst hj; subst hn
      exact this
    | succ j => exact m2 j r n (by simpa using hj) (by simpa using hn)
  | [], _ :: _, hb, _ => nomatch hb
  | _ :: _, [], hb, _ => nomatch hb
def resB (rsh : Rs) (ors rs : List (Int × Int)) (ok : Ks) (a : SV × Hp) : Bool :=
  match rsEs rsh a.1 with
  | some es => bif inRs a.2.gh.k ors es then holdsB a.2.gh.k (es ++ vars 0 rs) ok else false
  | none => false
def argsG (ss : List Sh) (rs : List (Int × Int)) : List SV := (shSVs ss (vars 0 rs)).map .pv
def Fof (t : XR) (rsh : Rs) (ft : Ft) (args : List Int) : List Int :=
  match t.pick (envA ft args) with
  | some (V', sv, _) => ((rsEs rsh sv).getD []).map (E.den V')
  | none => []
/-- what a call ends in: that value, all that was there as it was -/
def Gives (v : Value) (w : World) (e : Ending) (w' : World) : Prop := e = .returned v ∧ Below w.heap.size w w'
theorem calls_some {P : Program} {f : FuncId} {args : Array Value} {w : World} {R : Ending → World → Prop} (h : Calls P f args w R) : ∃ e w', R e w' := by
  obtain ⟨e, w', _, h1, _⟩ := h []
  exact ⟨e, w', h1⟩
theorem All2.map_pv {C : Ctx} : ∀ {ps : List PV} {vs : List Value}, All2 (PV.rel C) ps vs → All2 (SV.rel C) (ps.map .pv) vs
  | _, _, .nil => .nil
  | _, _, .cons h1 h2 => .cons h1 (All2.map_pv h2)
section
variable {P : Program} {tb : Tb} {orc : Orc} {ft : Ft} {f0 g0 : FuncId} {ss : List Sh} {rs ors : List (Int × Int)} {fk ok : Ks} {rsh : Rs} {lf n : Nat}
theorem argsG_rel {args : List Int} (h : InB rs args) (hl : rs.length ≤ 1000) : All2 (SV.rel (ctx1 (envA ft args))) (argsG ss rs) (shVs ss args) ∧ ∀ e ∈ vars 0 rs, e.sc (envA ft args) fun i => i < 1000 := by
  have hsc : ∀ e ∈ vars 0 rs, e.sc (envA ft args) fun i => i < 1000 := fun e he => by
    obtain ⟨j, r, h1, rfl⟩ := vars_get he
    have hj : j < rs.length := (List.getElem?_eq_some_iff.1 h1).1
    have := inB_get h h1
    simp only [Nat.zero_add]
    exact ⟨by omega, this.1, this.2⟩
  have hden : (vars 0 rs).map (E.den (envA ft args)) = args := vars_den h.1 fun j m hj => by
    show args.getD (0 + j) 0 = m
    simp [List.getD, hj]
  have := shSVs_rel (C := ctx1 (envA ft args)) ss hsc
  rw [show (ctx1 (envA ft args)).V = envA ft args from rfl, hden] at this
  exact ⟨this.map_pv, hsc⟩
theorem hrelF {args : List Int} (h : InB rs args) (hl : rs.length ≤ 1000) (hf : fk.all (fun q => scB rs q.1) = true) (hk : KsOk (env0 args) fk) (w : World) : HRel (ctx1 (envA ft args)) (hpF fk) w :=
  ⟨⟨fun b blk h => by simp [hpF, hget] at h, fun b b' blk blk' g c c' h => by simp [hpF, hget] at h⟩,
   ⟨fun _ h => h, (fun _ h => nomatch h), fun q hq => ⟨scB_ok h (fun i hi => by show i < 1000; omega) (List.all_eq_true.1 hf q hq), hk.env q hq⟩, (fun _ h => nomatch h)⟩,
   (fun b blk g c h => by simp [hpF, hget] at h), (fun b blk g c h => by simp [hpF, hget] at h), fun b hb => ⟨rfl, fun h => by
    rcases hb with ⟨h1, _⟩ | ⟨r, hr, _⟩
    · simp only [hpF] at h1; exact absurd h (by show ¬ b < 1000; omega)
    · simp [hpF] at hr⟩, fun b g c h => nomatch h⟩
theorem Kp.belowN {V : Env} {vd : Nat → Prop} {bl : Nat → Option (Nat × Nat)} {w : World} {C' : Ctx} {w' : World} (h : Kp ⟨V, vd, bl, noExt, fun _ => False, fun _ => False⟩ w C' w') : Below w.heap.size w w' :=
  ⟨h.os, h.tape, h.output, h.size, fun k hk => h.keep k hk (fun e => e) (fun e => e)⟩
/-- the run, told -/
theorem run_told (htb : TbOk P tb) (hm : P.follows .mixedOrders = true) (ho : OrcOk P noExt ft orc) (hl : rs.length ≤ 1000) (hf : fk.all (fun q => scB rs q.1) = true)
    (h1 : (xfn P tb orc lf n f0 (argsG ss rs) (hpF fk)).one = true) (p : SV × Hp → Bool) (hr : (xfn P tb orc lf n f0 (argsG ss rs) (hpF fk)).every p = true) {args : List Int} (hi : InB rs args) (hk : KsOk (env0 args) fk) (w : World) :
    Calls P f0 (shVs ss args).toArray w fun e w' => ∃ C' v sv hp', e = .returned v ∧ sv.rel C' v ∧ HRel C' hp' w' ∧ Kp (ctx1 (envA ft args)) w C' w' ∧ (xfn P tb orc lf n f0 (argsG ss rs) (hpF fk)).pick (envA ft args) = some (C'.V, (sv, hp')) ∧ p (sv, hp') = true :=
  xfn_ok (X := noExt) (ft := ft) htb ho hm lf n f0 (argsG ss rs) (hpF fk) (ctx1 (envA ft args)) w (shVs ss args) ⟨rfl, rfl, fun _ _ h => nomatch h⟩ (hrelF hi hl hf hk w) (argsG_rel hi hl).1
    (fun V' a => (xfn P tb orc lf n f0 (argsG ss rs) (hpF fk)).pick (envA ft args) = some (V', a) ∧ p a = true) (T.holds_pick h1 (T.every_holds hr))
/-- what a function answers is a function of the numbers -/
theorem sum_of_run (htb : TbOk P tb) (hm : P.follows .mixedOrders = true) (ho : OrcOk P noExt ft orc) (hl : rs.length ≤ 1000) (hf : fk.all (fun q => scB rs q.1) = true)
    (h1 : (xfn P tb orc lf n f0 (argsG ss rs) (hpF fk)).one = true) (hso : ok.all (fun q => scTy (ors ++ rs) true q.1) = true) (hr : (xfn P tb orc lf n f0 (argsG ss rs) (hpF fk)).every (resB rsh ors rs ok) = true) {args : List Int} (hi : InB rs args) (hk : KsOk (env0 args) fk) (w : World) :
    (InB ors (Fof (xfn P tb orc lf n f0 (argsG ss rs) (hpF fk)) rsh ft args) ∧ KsOk (env0 (Fof (xfn P tb orc lf n f0 (argsG ss rs) (hpF fk)) rsh ft args ++ args)) ok) ∧ Calls P f0 (shVs ss args).toArray w (Gives (rsV rsh (Fof (xfn P tb orc lf n f0 (argsG ss rs) (hpF fk)) rsh ft args)) w) := by
  have key := run_told htb hm ho hl hf h1 (resB rsh ors rs ok) hr hi hk w
  have told : ∀ {e : Ending} {w' : World}, (∃ C' v sv hp', e = .returned v ∧ sv.rel C' v ∧ HRel C' hp' w' ∧ Kp (ctx1 (envA ft args)) w C' w' ∧ (xfn P tb orc lf n f0 (argsG ss rs) (hpF fk)).pick (envA ft args) = some (C'.V, (sv, hp')) ∧ resB rsh ors rs ok (sv, hp') = true) →
      (InB ors (Fof (xfn P tb orc lf n f0 (argsG ss rs) (hpF fk)) rsh ft args) ∧ KsOk (env0 (Fof (xfn P tb orc lf n f0 (argsG ss rs) (hpF fk)) rsh ft args ++ args)) ok) ∧ Gives (rsV rsh (Fof (xfn P tb orc lf n f0 (argsG ss rs) (hpF fk)) rsh ft args)) w e w' := by
    rintro e w' ⟨C', v, sv, hp', rfl, hrel, hH, hK, hp, hb⟩
    unfold resB at hb
    split at hb
    · rename_i es hes
      obtain ⟨m1, rfl⟩ := rsEs_ok hes hrel
      have hF : Fof (xfn P tb orc lf n f0 (argsG ss rs) (hpF fk)) rsh ft args = es.map (E.den C'.V) := by
        unfold Fof; rw [hp]; simp only [hes, Option.getD_some]
      rw [hF]
      obtain ⟨hb1, hb2⟩ := and_bif hb
      have hin := inRs_ok hH.ks hb1 m1
      obtain ⟨_, hvs⟩ := argsG_rel (ss := ss) (ft := ft) hi hl
      have hva : (vars 0 rs).map (E.den C'.V) = args := (den_map (C := ctx1 (envA ft args)) hK.le hvs).trans (vars_den hi.1 fun j m hj => by
        show args.getD (0 + j) 0 = m
        simp [List.getD, hj])
      have hlen : (vars 0 rs).length = rs.length := by
        have := congrArg List.length hva
        simp only [List.length_map] at this
        rw [this, hi.1]
      have := holdsB_ok hH.ks (σ := es ++ vars 0 rs) (rs := ors ++ rs) (fun e he => by
        rcases List.mem_append.1 he with he | he
        · exact m1 e he
        · exact (E.sc_le hK.le e (hvs e he)).1) (by have := hin.1; simp at this; simp [this, hlen]) hso hb2
      rw [List.map_append, hva] at this
      exact ⟨⟨hin, this⟩, rfl, hK.belowN⟩
    · cases hb
  obtain ⟨e, w', hh⟩ := calls_some key
  exact ⟨(told hh).1, key.mono fun e w' hh => (told hh).2⟩
/-- what is known of numbers, no block -/
def hpNext (hp : Hp) : Hp := ⟨[], hp.nx, hp.lim, [], ⟨hp.gh.k, hp.gh.d, []⟩⟩
def sameR (rsh : Rs) (a b : SV) : Bool :=
  match rsEs rsh a, rsEs rsh b with
  | some x, some y => allEq x y
  | _, _ => false
/-- another function answers the same -/
theorem same_of_run (htb : TbOk P tb) (hm : P.follows .mixedOrders = true) (ho : OrcOk P noExt ft orc) (hl : rs.length ≤ 1000) (hf : fk.all (fun q => scB rs q.1) = true)
    (h1 : (xfn P tb orc lf n f0 (argsG ss rs) (hpF fk)).one = true) (hr : (xfn P tb orc lf n f0 (argsG ss rs) (hpF fk)).every (fun a => (xfn P tb orc lf n g0 (argsG ss rs) (hpNext a.2)).every fun b => sameR rsh a.1 b.1) = true) {args : List Int} (hi : InB rs args) (hk : KsOk (env0 args) fk) (w : World) :
    Calls P g0 (shVs ss args).toArray w (Gives (rsV rsh (Fof (xfn P tb orc lf n f0 (argsG ss rs) (hpF fk)) rsh ft args)) w) := by
  obtain ⟨e, w', C', v, sv, hp', rfl, hrel, hH, hK, hp, hb⟩ := calls_some (run_told htb hm ho hl hf h1 _ hr hi hk w)
  simp only at hb
  have hG : GhOk C'.V C'.vd noExt (fun _ => none) (fun _ => False) (hpNext hp').gh w := ⟨fun _ h => h, (fun _ h => nomatch h), hH.ext.facts, hH.ext.defs⟩
  let C2 : Ctx := ⟨C'.V, C'.vd, fun _ => none, noExt, fun _ => False, fun _ => False⟩
  have hH2 : HRel C2 (hpNext hp') w := ⟨⟨fun b blk h => by simp [hpNext, hget] at h, fun b b' blk blk' g c c' h => by simp [hpNext, hget] at h⟩, hG, (fun b blk g c h => by simp [hpNext, hget] at h), (fun b blk g c h => by simp [hpNext, hget] at h), fun b hb => ⟨rfl, by
    rcases hb with ⟨h1, h2⟩ | ⟨r, hr, _⟩
    · exact (hH.free b (.inl ⟨h1, h2⟩)).2
    · simp [hpNext] at hr⟩, fun b g c h => nomatch h⟩
  obtain ⟨ha, hsc⟩ := argsG_rel (ss := ss) (ft := ft) hi hl
  have hle : Ctx.le (ctx1 (envA ft args)) C2 := ⟨hK.le.v, hK.le.f, rfl, fun b x h => nomatch h⟩
  have ha2 : All2 (SV.rel C2) (argsG ss rs) (shVs ss args) := ha.mono fun _ _ => SV.rel.le hle
  have hft : C2.V.f = ft := hK.le.f
  refine (xfn_ok (X := noExt) (ft := ft) htb ho hm lf n g0 (argsG ss rs) (hpNext hp') C2 w (shVs ss args) ⟨hft, rfl, fun _ _ h => nomatch h⟩ hH2 ha2 _ (T.every_holds hb)).mono ?_
  rintro e w2 ⟨C3, v3, sv3, hp3, rfl, hrel3, hH3, hK3, hb3⟩
  simp only [sameR] at hb3
  split at hb3
  · rename_i es es3 hes hes3
    obtain ⟨m1, rfl⟩ := rsEs_ok hes hrel
    obtain ⟨m3, rfl⟩ := rsEs_ok hes3 hrel3
    have hF : Fof (xfn P tb orc lf n f0 (argsG ss rs) (hpF fk)) rsh ft args = es.map (E.den C'.V) := by
      unfold Fof; rw [hp]; simp only [hes, Option.getD_some]
    have e1 : es.map (E.den C3.V) = es.map (E.den C'.V) := den_map (C := C2) (C' := C3) hK3.le m1
    refine ⟨?_, hK3.belowN⟩
    rw [hF, ← e1, allEq_ok C3.V hb3]
  · cases hb3
end
/-! ### such an answer as a contract -/
/-- a function answers what F says -/
def Tells (P : Program) (f : FuncId) (ss : List Sh) (rs : List (Int × Int)) (fk : Ks) (rsh : Rs) (ors : List (Int × Int)) (ok : Ks) (F : List Int → List Int) : Prop :=
  ∀ args, InB rs args → KsOk (env0 args) fk → ∀ w, (InB ors (F args) ∧ KsOk (env0 (F args ++ args)) ok) ∧ Calls P f (shVs ss args).toArray w (Gives (rsV rsh (F args)) w)
def asPVs' : List SV → Option (List PV)
  | [] => some []
  | .pv p :: r => match asPVs' r with
    | some l => some (p :: l)
    | none => none
  | _ => none
theorem asPVs'_ok {C : Ctx} : ∀ {as : List SV} {ps : List PV} {vs : List Value}, asPVs' as = some ps → All2 (SV.rel C) as vs → All2 (PV.rel C) ps vs
  | [], ps, vs, h, hv => by cases h; cases hv; exact .nil
  | a :: r, ps, vs, h, hv => by
    unfold asPVs' at h
    split at h
    · rename_i heq; cases heq
    · rename_i p r' heq
      cases heq
      split at h
      · cases h
        cases hv with
        | cons h1 h2 => exact .cons h1 (asPVs'_ok (by assumption) h2)
      · cases h
    · cases h
def sbK (σ : List E) : Ks → Ks
  | [] => []
  | (e, b) :: r => (e.sb σ, b) :: sbK σ r
theorem sbK_ok {V : Env} {d : Nat → Prop} {σ : List E} {rs : List (Int × Int)} (hσ : ∀ e ∈ σ, e.sc V d) (hl : σ.length = rs.length) : ∀ {o : Ks}, o.all (fun q => scTy rs true q.1) = true → KsOk (env0 (σ.map (E.den V))) o → ∀ q ∈ sbK σ o, q.1.sc V d ∧ q.1.tr V = q.2
  | [], _, _, q, hq => nomatch hq
  | (e, b) :: r, h1, h2, q, hq => by
    simp only [List.all_cons, Bool.and_eq_true] at h1
    rcases List.mem_cons.1 hq with rfl | hq
    · obtain ⟨s1, _, s3⟩ := sb_ok hσ hl h1.1
      exact ⟨s1, (s3 rfl).trans (h2 (e, b) List.mem_cons_self)⟩
    · exact sbK_ok hσ hl h1.2 h2.tail q hq
def tellOrc (f0 : FuncId) (i : Nat) (ss : List Sh) (rs : List (Int × Int)) (fk : Ks) (rsh : Rs) (ors : List (Int × Int)) (ok : Ks) : Orc := fun f args hp =>
  bif Nat.beq f f0 then
    match asPVs' args with
    | some ps => match shEs ss ps with
      | some es => bif inRs hp.gh.k rs es then (bif holdsB hp.gh.k es fk then some (xlets hp i es ors (fun vs => sbK (vs ++ es) ok) fun vs hp => svK (rsSV rsh vs) fun v => .ret (v, hp)) else some (.bad "what must be known")) else some (.bad "bounds of arguments")
      | none => some (.bad "form of arguments")
    | none => some (.bad "arguments")
  else none
theorem HRel.below' {C : Ctx} {hp : Hp} {w w' : World} (h : HRel C hp w) (hb : Below w.heap.size w w') : HRel C hp w' ∧ Kp C w C w' := by
  refine ⟨⟨⟨fun b blk hb' => ?_, h.inj⟩, h.ext.keep hb.size (fun g hg => hb.block g (h.ext.lt g hg)), h.apart, h.own, h.free, fun b g c hb1 => Nat.lt_of_lt_of_le (h.blt b g c hb1) hb.size⟩, .refl C, hb.size, hb.tape, hb.os, hb.output, fun g hg _ _ => hb.block g hg, fun _ h => .inl h, fun _ h => .inl h, fun b _ c h => .inl ⟨b, c, h⟩⟩
  obtain ⟨g, c, k1, k2⟩ := h.at_ b blk hb'
  exact ⟨g, c, k1, by rw [hb.block g k2.lt]; exact k2⟩
theorem CallOk.bad {P : Program} {C : Ctx} {w : World} {f : FuncId} {vs : Array Value} {why : String} : CallOk P C w f vs (.bad why) := fun _ h => h.elim
theorem tellOrc_ok {P : Program} {X : Ext} {ft : Ft} {f0 : FuncId} {i : Nat} {ss : List Sh} {rs : List (Int × Int)} {fk ok : Ks} {rsh : Rs} {ors : List (Int × Int)} (hsf : fk.all (fun q => scTy rs true q.1) = true) (hso : ok.all (fun q => scTy (ors ++ rs) true q.1) = true) (ht : Tells P f0 ss rs fk rsh ors ok (ft i)) : OrcOk P X ft (tellOrc f0 i ss rs fk rsh ors ok) := by
  intro f args hp t h0 C w vs hC h hv
  unfold tellOrc at h0
  cases hb : Nat.beq f f0 with
  | false => rw [hb, cond_false] at h0; cases h0
  | true =>
    rw [hb, cond_true] at h0
    have hf : f = f0 := Nat.eq_of_beq_eq_true hb
    subst hf
    split at h0
    · rename_i ps hps
      split at h0
      · rename_i es hes
        obtain ⟨m1, m2⟩ := shEs_ok hes (asPVs'_ok hps hv)
        cases hin : inRs hp.gh.k rs es with
        | false => rw [hin, cond_false] at h0; cases h0; exact CallOk.bad
        | true =>
          rw [hin, cond_true] at h0
          cases hpre : holdsB hp.gh.k es fk with
          | false => rw [hpre, cond_false] at h0; cases h0; exact CallOk.bad
          | true =>
          rw [hpre, cond_true] at h0
          cases h0
          intro Φ hx
          have hI := inRs_ok h.ks hin m1
          obtain ⟨⟨k1, k3⟩, k2⟩ := ht _ hI (holdsB_ok h.ks m1 (by have := hI.1; simpa using this) hsf hpre) w
          rw [← hC.1] at k1 k2 k3
          obtain ⟨C', hp', outs, n1, n2, n3, n4, n5, _⟩ := xlets_ok h m1 k1 (fun C1 vs1 hle1 hs1 hd1 => sbK_ok (rs := ors ++ rs) (fun e he => by
            rcases List.mem_append.1 he with he | he
            · exact hs1 e he
            · exact (E.sc_le hle1 e (m1 e he)).1) (by
            have e1 := congrArg List.length hd1
            have e2 := k1.1
            have e3 := hI.1
            simp only [List.length_map] at e1 e3
            simp only [List.length_append]
            omega) hso (by rw [List.map_append, hd1, den_map hle1 m1]; exact k3)) hx
          rw [svK_eq] at n5
          rw [m2]
          refine k2.mono ?_
          rintro e w' ⟨rfl, hbel⟩
          obtain ⟨q1, q2⟩ := n1.below' hbel
          refine ⟨C', _, _, hp', rfl, ?_, q1, n2.trans q2, n5⟩
          rw [← n4]
          exact rsSV_rel rsh n3
      · cases h0; exact CallOk.bad
    · cases h0; exact CallOk.bad
end
end Go.Proofs.YtkogjjeoihnjpaaGreat.Sx
end
section
set_option linter.unusedVariables false
set_option linter.unusedSimpArgs false
namespace Go.Proofs.YtkogjjeoihnjpaaGreat.Sx
open Go Go.RowKit
noncomputable section
/-- a truth that is not told yet -/
def asked (r : SV × Hp) : XR :=
  match r.1 with
  | .pv (.one (.bool e)) => xif e r.2 (fun hp => .ret (.pv (.one (.bool (.tt true))), hp)) (fun hp => .ret (.pv (.one (.bool (.tt false))), hp))
  | _ => .bad "no truth"
/-- is it b, by what is known? -/
def isB' (b : Bool) (a : SV × Hp) : Bool :=
  match a.1 with
  | .pv (.one (.bool e)) => (match knownF a.2.gh.k e with
    | some x => blSame x b
    | none => false)
  | _ => false
theorem isB'_ok {C : Ctx} {w : World} {b : Bool} {sv : SV} {hp : Hp} {v : Value} (h : isB' b (sv, hp) = true) (hr : sv.rel C v) (hH : HRel C hp w) : v = .bool b := by
  unfold isB' at h
  simp only at h
  split at h
  · rename_i e
    split at h
    · rename_i x hx
      have := knownF_ok hH.ks hr.1 hx
      rw [hr.2, this, blSame_ok h]
    · cases h
  · cases h
/-- a function answers b wherever that is known -/
def Says (P : Program) (f : FuncId) (ss : List Sh) (rs : List (Int × Int)) (fk : Ks) (b : Bool) : Prop :=
  ∀ args, InB rs args → KsOk (env0 args) fk → ∀ w, Calls P f (shVs ss args).toArray w (Gives (.bool b) w)
theorem says_of_run {P : Program} {tb : Tb} {orc : Orc} {ft : Ft} {f0 : FuncId} {ss : List Sh} {rs : List (Int × Int)} {fk : Ks} {lf n : Nat} {b : Bool} (htb : TbOk P tb) (hm : P.follows .mixedOrders = true) (ho : OrcOk P noExt ft orc) (hl : rs.length ≤ 1000) (hf : fk.all (fun q => scB rs q.1) = true)
    (hr : (xfn P tb orc lf n f0 (argsG ss rs) (hpF fk)).every (isB' b) = true) : Says P f0 ss rs fk b := by
  intro args hi hk w
  refine (xfn_ok (X := noExt) (ft := ft) htb ho hm lf n f0 (argsG ss rs) (hpF fk) (ctx1 (envA ft args)) w (shVs ss args) ⟨rfl, rfl, fun _ _ h => nomatch h⟩ (hrelF hi hl hf hk w) (argsG_rel hi hl).1
    (fun _ a => isB' b a = true) (T.every_holds hr)).mono ?_
  rintro e w' ⟨C', v, sv, hp', rfl, hrel, hH, hK, hb⟩
  exact ⟨by rw [isB'_ok hb hrel hH], hK.belowN⟩
def sayOrc (f0 : FuncId) (ss : List Sh) (rs : List (Int × Int)) (fk : Ks) (b : Bool) : Orc := fun f args hp =>
  bif Nat.beq f f0 then
    match asPVs' args with
    | some ps => match shEs ss ps with
      | some es => bif inRs hp.gh.k rs es then (bif holdsB hp.gh.k es fk then some (.ret (.pv (.one (.bool (.tt b))), hp)) else none) else none
      | none => none
    | none => none
  else none
theorem sayOrc_ok {P : Program} {X : Ext} {ft : Ft} {f0 : FuncId} {ss : List Sh} {rs : List (Int × Int)} {fk : Ks} {b : Bool} (hsf : fk.all (fun q => scTy rs true q.1) = true) (ht : Says P f0 ss rs fk b) : OrcOk P X ft (sayOrc f0 ss rs fk b) := by
  intro f args hp t h0 C w vs hC h hv
  unfold sayOrc at h0
  cases hb : Nat.beq f f0 with
  | false => rw [hb, cond_false] at h0; cases h0
  | true =>
    rw [hb, cond_true] at h0
    have hf : f = f0 := Nat.eq_of_beq_eq_true hb
    subst hf
    split at h0
    · rename_i ps hps
      split at h0
      · rename_i es hes
        obtain ⟨m1, m2⟩ := shEs_ok hes (asPVs'_ok hps hv)
        cases hin : inRs hp.gh.k rs es with
        | false => rw [hin, cond_false] at h0; cases h0
        | true =>
          rw [hin, cond_true] at h0
          cases hpre : holdsB hp.gh.k es fk with
          | false => rw [hpre, cond_false] at h0; cases h0
          | true =>
            rw [hpre, cond_true] at h0
            cases h0
            intro Φ hx
            have hI := inRs_ok h.ks hin m1
            have := ht _ hI (holdsB_ok h.ks m1 (by have := hI.1; simpa using this) hsf hpre) w
            rw [m2]
            refine this.mono ?_
            rintro e w' ⟨rfl, hbel⟩
            obtain ⟨q1, q2⟩ := h.below' hbel
            exact ⟨C, .bool b, .pv (.one (.bool (.tt b))), hp, rfl, ⟨trivial, rfl⟩, q1, q2, hx⟩
      · cases h0
    · cases h0
  
/-- a run as it must be: one way at each test, its ends between bounds, with what is known then -/
def ranB (t : XR) (rsh : Rs) (ors rs : List (Int × Int)) (ok : Ks) : Bool := bif t.one then t.every (resB rsh ors rs ok) else false
theorem tells_of_run {P : Program} {tb : Tb} {orc : Orc} {ft : Ft} {f0 : FuncId} {ss : List Sh} {rs ors : List (Int × Int)} {fk ok : Ks} {rsh : Rs} {lf n : Nat} (htb : TbOk P tb) (hm : P.follows .mixedOrders = true) (ho : OrcOk P noExt ft orc) (hl : rs.length ≤ 1000) (hf : fk.all (fun q => scB rs q.1) = true) (hso : ok.all (fun q => scTy (ors ++ rs) true q.1) = true)
    (h : ranB (xfn P tb orc lf n f0 (argsG ss rs) (hpF fk)) rsh ors rs ok = true) : Tells P f0 ss rs fk rsh ors ok (Fof (xfn P tb orc lf n f0 (argsG ss rs) (hpF fk)) rsh ft) := by
  obtain ⟨h1, h2⟩ := and_bif h
  intro args hi hk w
  exact sum_of_run htb hm ho hl hf h1 hso h2 hi hk w
/-- by cases of one number -/
theorem Tells.cases {P : Program} {f0 : FuncId} {ss : List Sh} {rs ors : List (Int × Int)} {fk ok : Ks} {rsh : Rs} {i : Nat} {m : Nat} {u : Int} (hr : rs[i]? = some (.ofNat 0, u)) (hu : u ≤ m) {F : Nat → List Int → List Int}
    (h : ∀ j, j ≤ m → Tells P f0 ss rs (fk ++ [(.cmp .eql (.var (.ofNat 0) u i) (.lit (.ofNat j)), true)]) rsh ors ok (F j)) : Tells P f0 ss rs fk rsh ors ok (fun args => F (args.getD i 0).toNat args) := by
  intro args hi hk w
  have hb := inB_get hi hr
  have h0 : (0 : Int) ≤ args.getD i 0 := hb.1
  have h1 : args.getD i 0 ≤ u := hb.2
  refine h (args.getD i 0).toNat (by omega) args hi (fun q hq => ?_) w
  rcases List.mem_append.1 hq with hq | hq
  · exact hk q hq
  · rw [List.mem_singleton.1 hq]
    show (E.cmp .eql _ _).tr _ = true
    rw [tr_cmp, den_var, den_lit]
    show (args.getD i 0 == Int.ofNat (args.getD i 0).toNat) = true
    rw [beq_iff_eq]
    simp only [Int.ofNat_eq_natCast]
    omega
/-- by one test -/
theorem Tells.split {P : Program} {f0 : FuncId} {ss : List Sh} {rs ors : List (Int × Int)} {fk ok : Ks} {rsh : Rs} (e : E) {F G : List Int → List Int} (h1 : Tells P f0 ss rs (fk ++ [(e, true)]) rsh ors ok F) (h2 : Tells P f0 ss rs (fk ++ [(e, false)]) rsh ors ok G) :
    Tells P f0 ss rs fk rsh ors ok (fun args => if e.tr (env0 args) then F args else G args) := by
  intro args hi hk w
  have key : ∀ b, e.tr (env0 args) = b → KsOk (env0 args) (fk ++ [(e, b)]) := fun b hb q hq => by
    rcases List.mem_append.1 hq with hq | hq
    · exact hk q hq
    · rw [List.mem_singleton.1 hq]; exact hb
  cases hb : e.tr (env0 args) with
  | true =>
    have := h1 args hi (key true hb) w
    simp only [hb, if_true]; exact this
  | false =>
    have := h2 args hi (key false hb) w
    simp only [hb, Bool.false_eq_true, if_false]; exact this
/-- by the values of one number -/
theorem Tells.oneOf {P : Program} {f0 : FuncId} {ss : List Sh} {rs ors : List (Int × Int)} {fk ok : Ks} {rsh : Rs} {lo hi : Int} (i : Nat) (l : List Int) (hin : ∀ args, InB rs args → KsOk (env0 args) fk → args.getD i 0 ∈ l) {F : Int → List Int → List Int}
    (h : ∀ c ∈ l, Tells P f0 ss rs (fk ++ [(.cmp .eql (.var lo hi i) (.lit c), true)]) rsh ors ok (F c)) : Tells P f0 ss rs fk rsh ors ok (fun args => F (args.getD i 0) args) := by
  intro args hi hk w
  refine h _ (hin args hi hk) args hi (fun q hq => ?_) w
  rcases List.mem_append.1 hq with hq | hq
  · exact hk q hq
  · rw [List.mem_singleton.1 hq]
    show (E.cmp .eql _ _).tr _ = true
    rw [tr_cmp, den_var, den_lit]
    show (args.getD i 0 == args.getD i 0) = true
    exact beq_self_eq_true _
/-- contracts side by side -/
def orcL : List Orc → Orc
  | [] => noOrc
  | a :: l => orcOr a (orcL l)
theorem orcL_ok {P : Program} {X : Ext} {ft : Ft} : ∀ {l : List Orc}, (∀ o ∈ l, OrcOk P X ft o) → OrcOk P X ft (orcL l)
  | [], _ => noOrc_ok P X ft
  | a :: l, h => orcOr_ok (h a List.mem_cons_self) (orcL_ok fun o ho => h o (List.mem_cons_of_mem _ ho))
end
end Go.Proofs.YtkogjjeoihnjpaaGreat.Sx
end
