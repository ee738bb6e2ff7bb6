/- A program run on terms: statements, loops, functions. No condition. What is known cannot be: found in what is known. No condition. -/
import Derived.Test.YtkogjjeoihnjpaaGreatPack4
import Derived.LoopN
import Derived.StillTail
import Derived.Scope
import Derived.Test.YtkogjjeoihnjpaaGreatPack5
import Derived.Test.YtkogjjeoihnjpaaGreatPack1
import Derived.Test.YtkogjjeoihnjpaaGreatPack3
section
set_option linter.unusedVariables false
set_option linter.unusedSimpArgs false
namespace Go.Proofs.YtkogjjeoihnjpaaGreat.Sx
open Go
noncomputable section
/-- slots, as a tree of ten levels -/
inductive Tr where
  | nil
  | leaf (v : SV)
  | node (l r : Tr)
  deriving DecidableEq, Inhabited
def Tr.get : Nat → Tr → Nat → SV
  | 0, .leaf v, _ => v
  | k + 1, .node l r, n => bif Nat.beq (n % 2) 0 then l.get k (n / 2) else r.get k (n / 2)
  | _, _, _ => SV.undef
def Tr.set : Nat → Tr → Nat → SV → Tr
  | 0, _, _, v => .leaf v
  | k + 1, .node l r, n, v => bif Nat.beq (n % 2) 0 then .node (l.set k (n / 2) v) r else .node l (r.set k (n / 2) v)
  | k + 1, _, n, v => bif Nat.beq (n % 2) 0 then .node (Tr.nil.set k (n / 2) v) .nil else .node .nil (Tr.nil.set k (n / 2) v)
theorem Tr.get_nil (k n : Nat) : Tr.nil.get k n = SV.undef := by cases k <;> rfl
theorem Tr.get_leaf (k n : Nat) (v : SV) : (Tr.leaf v).get (k + 1) n = SV.undef := rfl
theorem Tr.get_set : ∀ (k : Nat) (t : Tr) (n m : Nat) (v : SV), n < 2 ^ k → m < 2 ^ k → (t.set k n v).get k m = if m = n then v else t.get k m
  | 0, t, n, m, v, hn, hm => by
    have : n = 0 := by simpa using hn
    have : m = 0 := by simpa using hm
    subst_vars
    rfl
  | k + 1, t, n, m, v, hn, hm => by
    have hn' : n / 2 < 2 ^ k := by rw [Nat.pow_succ] at hn; omega
    have hm' : m / 2 < 2 ^ k := by rw [Nat.pow_succ] at hm; omega
    have gen : ∀ l r : Tr, ((bif Nat.beq (n % 2) 0 then Tr.node (l.set k (n / 2) v) r else Tr.node l (r.set k (n / 2) v)) : Tr).get (k + 1) m = if m = n then v else (Tr.node l r).get (k + 1) m := fun l r => by
      cases hb : Nat.beq (n % 2) 0 with
      | true =>
        have e : n % 2 = 0 := Nat.eq_of_beq_eq_true hb
        rw [cond_true]
        simp only [Tr.get]
        cases hc : Nat.beq (m % 2) 0 with
        | true =>
          have e' : m % 2 = 0 := Nat.eq_of_beq_eq_true hc
          rw [cond_true, cond_true, Tr.get_set k l _ _ v hn' hm']
          by_cases hmn : m = n
          · subst hmn; simp
          · rw [if_neg hmn, if_neg (by omega)]
        | false =>
          have e' : m % 2 ≠ 0 := fun e => by rw [e] at hc; cases hc
          rw [if_neg (fun h => e' (by rw [h]; exact e))]; rfl
      | false =>
        have e : n % 2 ≠ 0 := fun e => by rw [e] at hb; cases hb
        rw [cond_false]
        simp only [Tr.get]
        cases hc : Nat.beq (m % 2) 0 with
        | true =>
          have e' : m % 2 = 0 := Nat.eq_of_beq_eq_true hc
          rw [if_neg (fun h => e (by rw [← h]; exact e'))]; rfl
        | false =>
          have e' : m % 2 ≠ 0 := fun e => by rw [e] at hc; cases hc
          rw [cond_false, cond_false, Tr.get_set k r _ _ v hn' hm']
          by_cases hmn : m = n
          · subst hmn; simp
          · rw [if_neg hmn, if_neg (by omega)]
    have nn : (Tr.node Tr.nil Tr.nil).get (k + 1) m = SV.undef := by
      simp only [Tr.get, Tr.get_nil]; cases Nat.beq _ 0 <;> rfl
    cases t with
    | node l r => exact gen l r
    | nil => have := gen .nil .nil; rw [nn] at this; exact this
    | leaf u => have := gen .nil .nil; rw [nn] at this; exact this
structure St where
  sz : Nat
  tmps : Tr
  hp : Hp
  deriving DecidableEq, Inhabited
theorem zero_rec {α : Type} (k : Nat) (a b : α) : Nat.rec (motive := fun _ => α) a (fun _ _ => b) k = bif Nat.beq k 0 then a else b := by cases k <;> rfl
theorem bool_rec {α : Type} (c : Bool) (a b : α) : Bool.rec (motive := fun _ => α) b a c = bif c then a else b := by cases c <;> rfl
def Tr.getR (i : Nat) : Tr → Nat → SV :=
  Nat.rec (motive := fun _ => Tr → Nat → SV) (fun t _ => Tr.rec (motive := fun _ => SV) SV.undef (fun v => v) (fun _ _ _ _ => SV.undef) t)
    (fun _ ih t n => Tr.rec (motive := fun _ => SV) SV.undef (fun _ => SV.undef) (fun l r _ _ => Nat.rec (motive := fun _ => SV) (ih l (Nat.div n 2)) (fun _ _ => ih r (Nat.div n 2)) (Nat.mod n 2)) t) i
theorem Tr.getR_eq : ∀ (i : Nat) (t : Tr) (n : Nat), Tr.getR i t n = t.get i n := by
  intro i
  induction i with
  | zero => intro t n; cases t <;> rfl
  | succ i ih =>
    intro t n
    cases t with
    | nil => rfl
    | leaf v => rfl
    | node l r =>
      show (Nat.rec (motive := fun _ => SV) (Tr.getR i l (n / 2)) (fun _ _ => Tr.getR i r (n / 2)) (n % 2) : SV) = _
      rw [ih, ih, zero_rec]; rfl
/-- how deep the tree is -/
def lv (sz : Nat) : Nat := Nat.succ (Nat.log2 sz)
theorem lt_lv {n sz : Nat} (h : n < sz) : n < 2 ^ lv sz := Nat.lt_trans h Nat.lt_log2_self
theorem le_lv {n sz : Nat} (h : n ≤ sz) : n ≤ 2 ^ lv sz := Nat.le_of_lt (Nat.lt_of_le_of_lt h Nat.lt_log2_self)
def St.get (st : St) (n : Nat) : SV := Bool.rec (motive := fun _ => SV) SV.undef (Tr.getR (lv st.sz) st.tmps n) (Nat.blt n st.sz)
theorem St.get_eq (st : St) (n : Nat) : st.get n = bif Nat.blt n st.sz then Tr.getR (lv st.sz) st.tmps n else SV.undef := by unfold St.get; rw [bool_rec]
structure ARel (C : Ctx) (st : St) (a : Act) : Prop where
  sz : st.sz = a.tmps.size
  most : st.sz ≤ 1024
  rel : ∀ n, SV.rel C (st.get n) (a.tmps.getD n Go.undef)
  defers : a.defers = []
/-- the functions of the text, by number -/
abbrev Tb := FuncId → Option Func
def TbOk (P : Program) (tb : Tb) : Prop := ∀ g fn, tb g = some fn → P.funcs[g]? = some fn ∧ (fn.name == "runtime.NumGoroutine") = false ∧ ∃ c, fn.body = some c
def ptrSV (p : Nat × Nat) : SV := .sc (.ptr p.1 p.2)
/-- the signature of a context -/
def Ctx.Is (C : Ctx) (X : Ext) (ft : Nat → List Int → List Int) : Prop := C.V.f = ft ∧ C.X = X ∧ ∀ i v, X.px i = some v → C.vd i ∧ C.V.x i = v
theorem Ctx.Is.le {C C' : Ctx} {X : Ext} {ft} (h : C.Is X ft) (k : C.le C') : C'.Is X ft := ⟨k.f.trans h.1, k.X.trans h.2.1, fun i v hi => ⟨(k.v i (h.2.2 i v hi).1).1, (k.v i (h.2.2 i v hi).1).2.2.2.trans (h.2.2 i v hi).2⟩⟩
/-- calls -/
abbrev Cf := FuncId → List SV → Hp → XR
def CallOk (P : Program) (C : Ctx) (w : World) (f : FuncId) (vs : Array Value) (t : XR) : Prop :=
  ∀ Φ : Env → SV × Hp → Prop, t.holds Φ C.V → Calls P f vs w fun e w' => ∃ C' v sv hp', e = .returned v ∧ sv.rel C' v ∧ HRel C' hp' w' ∧ Kp C w C' w' ∧ Φ C'.V (sv, hp')
/-- what the summaries of the text's functions are -/
abbrev Ft := Nat → List Int → List Int
def CfOk (P : Program) (X : Ext) (ft : Ft) (cf : Cf) : Prop := ∀ (f : FuncId) (args : List SV) (hp : Hp) (C : Ctx) (w : World) (vs : List Value), C.Is X ft → HRel C hp w → All2 (SV.rel C) args vs → CallOk P C w f vs.toArray (cf f args hp)
def xcall (P : Program) (tb : Tb) (cf : Cf) (ev : Operand → Option SV) (f : Operand) (args : Array Operand) (hp : Hp) : XR :=
  match ev f, xevs ev args.toList with
  | some (.pv (.one (.fn (.func g) fs cs))), some l => match tb g with
    | some _ => cf g (fs.map ptrSV ++ l ++ cs.map ptrSV) hp
    | none => .bad "call which"
  | some (.pv (.one (.fn (.via t path g true) (p :: fs) _))), some l => match tb g, P.underlying t with
    | some _, some (.pointer _) => if path.isEmpty then cf g (ptrSV p :: fs.map ptrSV ++ l) hp else .bad "call path"
    | _, _ => .bad "call which"
  | some (.pv (.one (.mth name t b o))), some l =>
    match xmeth P t name with
    | some g => match tb g with
      | some _ => cf g (.sc (.ptr b o) :: l) hp
      | none => .bad "call which"
    | none => .bad "call method"
  | _, _ => .bad "call"
/-- a call through an interface -/
def xinvoke (P : Program) (tb : Tb) (cf : Cf) (ev : Operand → Option SV) (r : Operand) (name : String) (args : Array Operand) (hp : Hp) : XR :=
  match ev r, xevs ev args.toList with
  | some (.pv (.one (.iface t c))), some l =>
    match xmeth P t name with
    | some g => match tb g with
      | some _ => cf g (.sc c :: l) hp
      | none => .bad "invoke which"
    | none => .bad "invoke method"
  | _, _ => .bad "invoke"
def xoper (P : Program) (tb : Tb) (cf : Cf) (st : St) (o : Oper) : XR :=
  match pop P st.hp.gh.k (xev st.hp.gh.k st.get) o.op with
  | some sv => .ret (sv, st.hp)
  | none =>
    match o.op with
    | .call { callee := .value f, args, .. } => xcall P tb cf (xev st.hp.gh.k st.get) f args st.hp
    | .call { callee := .invoke r name, args, .. } => xinvoke P tb cf (xev st.hp.gh.k st.get) r name args st.hp
    | op => xop P (xev st.hp.gh.k st.get) op st.hp
def St.put (st : St) (d : Option Tmp) (v : SV) (hp : Hp) : St :=
  match d with
  | some d => bif Nat.blt d st.sz then ⟨st.sz, st.tmps.set (lv st.sz) d v, hp⟩ else ⟨st.sz, st.tmps, hp⟩
  | none => ⟨st.sz, st.tmps, hp⟩
/-- by the recursors themselves: the kernel is quicker so -/
noncomputable def Tr.setK {β : Type} (i : Nat) : Tr → Nat → SV → (Tr → β) → β :=
  Nat.rec (motive := fun _ => Tr → Nat → SV → (Tr → β) → β) (fun _ _ v k => k (.leaf v))
    (fun _ ih t n v k => Tr.rec (motive := fun _ => β) (Nat.rec (motive := fun _ => β) (ih .nil (Nat.div n 2) v fun l => k (.node l .nil)) (fun _ _ => ih .nil (Nat.div n 2) v fun r => k (.node .nil r)) (Nat.mod n 2)) (fun _ => Nat.rec (motive := fun _ => β) (ih .nil (Nat.div n 2) v fun l => k (.node l .nil)) (fun _ _ => ih .nil (Nat.div n 2) v fun r => k (.node .nil r)) (Nat.mod n 2)) (fun l r _ _ => Nat.rec (motive := fun _ => β) (ih l (Nat.div n 2) v fun l => k (.node l r)) (fun _ _ => ih r (Nat.div n 2) v fun r => k (.node l r)) (Nat.mod n 2)) t) i
theorem Tr.setK_eq {β : Type} : ∀ (i : Nat) (t : Tr) (n : Nat) (v : SV) (k : Tr → β), t.setK i n v k = k (t.set i n v) := by
  intro i
  induction i with
  | zero => intro t n v k; rfl
  | succ i ih =>
    intro t n v k
    have h2 : ∀ l r : Tr, (Nat.rec (motive := fun _ => β) (l.setK i (n / 2) v (fun l => k (.node l r))) (fun _ _ => r.setK i (n / 2) v fun r => k (.node l r)) (n % 2) : β) = k (bif Nat.beq (n % 2) 0 then .node (l.set i (n / 2) v) r else .node l (r.set i (n / 2) v)) := fun l r => by
      rw [zero_rec]
      cases Nat.beq (n % 2) 0 <;> simp only [cond_true, cond_false, ih]
    cases t with
    | node l r => exact h2 l r
    | nil => exact h2 .nil .nil
    | leaf u => exact h2 .nil .nil
/-- the same, reckoned at once -/
noncomputable def St.putK {β : Type} (st : St) (d : Option Tmp) (v : SV) (hp : Hp) (k : St → β) : β :=
  svK v fun v => natK st.sz fun sz => Option.rec (motive := fun _ => β) (k ⟨sz, st.tmps, hp⟩) (fun d => Bool.rec (motive := fun _ => β) (k ⟨sz, st.tmps, hp⟩) (st.tmps.setK (lv sz) d v fun t => k ⟨sz, t, hp⟩) (Nat.blt d sz)) d
theorem St.putK_eq {β : Type} (st : St) (d : Option Tmp) (v : SV) (hp : Hp) (k : St → β) : st.putK d v hp k = k (st.put d v hp) := by
  unfold St.putK St.put
  rw [svK_eq, natK_eq]
  cases d with
  | none => rfl
  | some d =>
    simp only [Tr.setK_eq]
    generalize Nat.blt d st.sz = b
    cases b <;> rfl
def xwant (ops : Array Oper) (st : St) (o : Oper) : Option E :=
  match o.guard with
  | none => some (.tt true)
  | some (j, want) =>
    match (ops[j]?).bind (·.dst) with
    | none => some (.tt false)
    | some d => match st.get d with
      | .pv (.one (.bool e)) => some (if want then e else mkNo e)
      | .pv (.one (.ext _)) => none
      | .any => none
      | _ => some (.tt false)
def xstep (P : Program) (tb : Tb) (cf : Cf) (ops : Array Oper) (st : St) (o : Oper) : T St :=
  match xwant ops st o with
  | none => .bad "guard"
  | some e => xif e st.hp (fun hp => (xoper P tb cf ⟨st.sz, st.tmps, hp⟩ o).bind fun r => st.putK o.dst r.1 r.2 .ret) (fun hp => st.putK o.dst SV.undef hp .ret)
def xlist (P : Program) (tb : Tb) (cf : Cf) (ops : Array Oper) : List Oper → St → T St
  | [], st => .ret st
  | o :: rest, st => (xstep P tb cf ops st o).bind fun st' => xlist P tb cf ops rest st'
section
variable {P : Program} {X : Ext} {ft : Ft} {tb : Tb} {cf : Cf} {C : Ctx} {w : World} {st : St} {a : Act}
theorem ARel.ev (h : ARel C st a) {ks : Ks} (hk : KsOk C.V ks) : EvOk C (xev ks st.get) a.eval := by
  intro x sv hx
  cases x with
  | tmp t =>
    simp only [xev, Option.some.injEq] at hx
    subst hx
    exact normV_ok hk (h.rel t)
  | const v =>
    simp only [xev] at hx
    obtain ⟨p, h1, rfl⟩ := Option.map_eq_some_iff.1 hx
    exact ofValue_rel C h1
  | global g => simp [xev] at hx
  | func f => simp only [xev, Option.some.injEq] at hx; subst hx; exact ⟨[], [], .nil, .nil, rfl⟩
theorem ARel.le {C' : Ctx} (h : ARel C st a) (hl : C.le C') : ARel C' st a := ⟨h.sz, h.most, fun n => SV.rel.le hl (h.rel n), h.defers⟩
theorem blt_true {n m : Nat} : Nat.blt n m = true ↔ n < m := by simp [Nat.blt_eq]
theorem blt_false {n m : Nat} (h : Nat.blt n m = false) : ¬ n < m := fun k => by rw [blt_true.2 k] at h; cases h
theorem put_get {st : St} (hm : st.sz ≤ 1024) (d : Nat) (v : SV) (hp : Hp) (n : Nat) : (st.put (some d) v hp).get n = if n = d ∧ d < st.sz then v else st.get n := by
  unfold St.put
  simp only
  cases hb : Nat.blt d st.sz with
  | false => rw [cond_false, if_neg (fun h => blt_false hb h.2)]; rfl
  | true =>
    have hd : d < st.sz := blt_true.1 hb
    rw [cond_true]
    simp only [St.get_eq, Tr.getR_eq]
    cases hn : Nat.blt n st.sz with
    | false => rw [cond_false, if_neg]; rfl; rintro ⟨rfl, _⟩; exact blt_false hn hd
    | true =>
      have hn' : n < st.sz := blt_true.1 hn
      rw [cond_true, cond_true, Tr.get_set (lv st.sz) _ _ _ _ (lt_lv hd) (lt_lv hn')]
      by_cases e : n = d
      · rw [if_pos e, if_pos ⟨e, hd⟩]
      · rw [if_neg e, if_neg (fun h => e h.1)]
theorem St.put_sz (st : St) (d : Option Tmp) (v : SV) (hp : Hp) : (st.put d v hp).sz = st.sz := by
  unfold St.put
  split
  · cases Nat.blt _ _ <;> rfl
  · rfl
theorem ARel.put (h : ARel C st a) {sv : SV} {v : Value} (hv : sv.rel C v) (d : Option Tmp) (hp : Hp) : ARel C (st.put d sv hp) (a.put d v) := by
  refine ⟨?_, by rw [St.put_sz]; exact h.most, fun n => ?_, ?_⟩
  · rw [St.put_sz, h.sz]; cases d <;> simp [Act.put]
  · cases d with
    | none => exact h.rel n
    | some d =>
      rw [put_get h.most]
      by_cases e : n = d ∧ d < st.sz
      · rw [if_pos e]
        obtain ⟨rfl, e2⟩ := e
        have : n < a.tmps.size := by rw [← h.sz]; exact e2
        simp only [Act.put]
        rw [Array.getD_eq_getD_getElem?, Array.getElem?_setIfInBounds_self_of_lt this]
        exact hv
      · rw [if_neg e]
        simp only [Act.put]
        by_cases e2 : n = d
        · subst e2
          have : ¬ n < a.tmps.size := by rw [← h.sz]; exact fun k => e ⟨rfl, k⟩
          have e3 : a.tmps.setIfInBounds n v = a.tmps := by simp [Array.setIfInBounds, this]
          rw [e3]
          exact h.rel n
        · rw [Array.getD_eq_getD_getElem?, Array.getElem?_setIfInBounds_ne (Ne.symm e2), ← Array.getD_eq_getD_getElem?]
          exact h.rel n
  · cases d <;> exact h.defers
theorem ARel.hp (h : ARel C st a) (hp : Hp) : ARel C ⟨st.sz, st.tmps, hp⟩ a := ⟨h.sz, h.most, h.rel, h.defers⟩
theorem ptrs_rel {l : List (Nat × Nat)} {vs : List Value} (h : All2 (ptrRel C) l vs) : All2 (SV.rel C) (l.map ptrSV) vs := by
  induction h with
  | nil => exact .nil
  | cons a b ih => exact .cons a ih
theorem xwant_ok (h : ARel C st a) {ops : Array Oper} {o : Oper} {e : E} (hw : xwant ops st o = some e) : e.sc C.V C.vd ∧ Region.wanted o (yielded ops a.tmps) = e.tr C.V := by
  unfold xwant at hw
  unfold Region.wanted
  split at hw
  · rename_i hg; cases hw; rw [hg]; exact ⟨trivial, rfl⟩
  · rename_i j want hg
    rw [hg]
    simp only [yielded]
    split at hw
    · rename_i hd; cases hw; rw [hd]; exact ⟨trivial, by simp [tr_tt]⟩
    · rename_i d hd
      rw [hd]
      simp only [Option.bind_some]
      have hr := h.rel d
      have hgd : ∀ b, a.tmps[d]? = some (.bool b) → a.tmps.getD d Go.undef = .bool b := fun b hb => by simp [Array.getD_eq_getD_getElem?, hb]
      have other : (∀ b, a.tmps.getD d Go.undef ≠ .bool b) → (match a.tmps[d]? with | some (.bool b) => some b | _ => none) = none := fun hn => by
        cases ht : a.tmps[d]? with
        | none => rfl
        | some v =>
          cases v <;> first | rfl | exact absurd (hgd _ ht) (hn _)
      split at hw
      · rename_i e' ht
        rw [ht] at hr
        obtain ⟨s, hv⟩ := hr
        have hlt : a.tmps[d]? = some (.bool (e'.tr C.V)) := by
          rw [Array.getD_eq_getD_getElem?] at hv
          cases hq : a.tmps[d]? with
          | none => rw [hq] at hv; cases hv
          | some v => rw [hq] at hv; simp only [Option.getD_some] at hv; rw [hv]
        rw [hlt]
        cases hw
        cases want
        · obtain ⟨n1, n2⟩ := mkNo_ok s
          simp only [Bool.false_eq_true, if_false]
          exact ⟨n1, by rw [n2]; cases e'.tr C.V <;> rfl⟩
        · simp only [if_true]
          exact ⟨s, by cases e'.tr C.V <;> rfl⟩
      · cases hw
      · cases hw
      · rename_i hne hne2 hne3
        cases hw
        refine ⟨trivial, ?_⟩
        rw [tr_tt]
        have hb : ∀ b, a.tmps.getD d Go.undef ≠ .bool b := fun b e => by
          rw [e] at hr
          generalize hsv : st.get d = sv at hr hne hne2 hne3
          cases sv with
          | any => exact hne3 rfl
          | tup ps => obtain ⟨_, _, k⟩ := hr; cases k
          | pv p => cases p with
            | agg cs => obtain ⟨_, _, k⟩ := hr; cases k
            | one c =>
              cases c
              case bool => exact hne _ rfl
              case ext => exact hne2 _ rfl
              all_goals
                simp only [SV.rel, PV.rel, SC.rel] at hr
                first
                  | (cases hr; done)
                  | (obtain ⟨_, hr⟩ := hr; cases hr; done)
                  | (obtain ⟨_, _, hr⟩ := hr; cases hr; done)
                  | (obtain ⟨_, _, _, hr⟩ := hr; cases hr; done)
                  | (obtain ⟨_, _, _, _, _, _, hr⟩ := hr; cases hr; done)
                  | (obtain ⟨_, _, _, _, _, _, hr, _⟩ := hr; cases hr; done)
                  | (obtain ⟨_, _, _, hr, _⟩ := hr; cases hr; done)
                  | (obtain ⟨_, _, _, _, hr⟩ := hr; cases hr; done) | (obtain ⟨_, _, _, _, _, _, hr⟩ := hr; cases hr; done) | (obtain ⟨_, _, _, _, _, _, hr, _⟩ := hr; cases hr; done)
        have := other hb
        split
        · rename_i b hq
          rw [hq] at this
          cases this
        · rfl
theorem run_callFunc {g : FuncId} (htb : TbOk P tb) {fn : Func} (hg : tb g = some fn) (args : Array Value) (w : World) : (callFunc g args).run P w = .ok (.enter g args) w := by
  obtain ⟨h1, h2, c, h3⟩ := htb g fn hg
  have h2' : ¬ fn.name = "runtime.NumGoroutine" := by simpa using h2
  simp [callFunc, h1, h2', h3]
theorem run_callMethod (htb : TbOk P tb) {t : TypeId} {name : String} {g : FuncId} (hm : xmeth P t name = some g) {fn : Func} (hg : tb g = some fn) (u : Value) (l : List Value) (w : World) :
    (callMethod (.iface t u) name l.toArray).run P w = .ok (.enter g (u :: l).toArray) w := by
  obtain ⟨n, hn⟩ : ∃ n, P.types.size + Made.depth = n + 1 := ⟨P.types.size + Made.depth - 1, by unfold Made.depth; omega⟩
  simp only [callMethod, Sem.run_bind, run_program, Result.andThen_ok, hn, run_method hm]
  have e : #[u] ++ l.toArray = (u :: l).toArray := by apply Array.ext'; simp
  rw [e]
  exact run_callFunc htb hg _ w
theorem xcall_ok (htb : TbOk P tb) (hcf : CfOk P X ft cf) (hC : C.Is X ft) (h : HRel C st.hp w) (ha : ARel C st a) {o : Oper} {f : Operand} {args : Array Operand} {ats : Array TypeId} (ho : o.op = .call { callee := .value f, args, argTypes := ats }) {K : Act → World → Prop} {Q : Exit → Act → World → Prop} {Φ : Env → SV × Hp → Prop}
    (hx : (xcall P tb cf (xev st.hp.gh.k st.get) f args st.hp).holds Φ C.V) (hK : ∀ C' sv hp' v w', Kp C w C' w' → HRel C' hp' w' → sv.rel C' v → Φ C'.V (sv, hp') → K (a.put o.dst v) w') : o.wp P a w K Q := by
  unfold xcall at hx
  split at hx
  · rename_i g fs cs l hf hl
    split at hx
    · rename_i fn hg
      obtain ⟨us, ws, k1, k2, k3⟩ := ha.ev h.ks _ _ hf
      have hargs := evs_ok (ha.ev h.ks) hl
      have hrun : (execOp a.eval o).run P w = .ok (.enter g (us ++ args.toList.map a.eval ++ ws).toArray) w := by
        have := run_callFunc (P := P) htb hg (us ++ args.toList.map a.eval ++ ws).toArray w
        unfold execOp
        rw [ho]
        simp only [resolve, k3, Deferred.ofValue, Sem.run_bind, Sem.run_pure, Result.andThen_ok, invoke]
        have e : us.toArray ++ Array.map a.eval args ++ ws.toArray = (us ++ args.toList.map a.eval ++ ws).toArray := by
          apply Array.ext'; simp
        rw [e]
        exact this
      unfold Oper.wp
      rw [hrun]
      refine (hcf g _ st.hp C w _ hC h (((ptrs_rel k1).append hargs).append (ptrs_rel k2)) Φ hx).mono ?_
      rintro e w' ⟨C', v, sv, hp', rfl, m1, m2, m3, m4⟩
      exact hK C' sv hp' v w' m3 m2 m1 m4
    · exact hx.elim
  · rename_i t path g p fs cs l hf hl
    split at hx
    · rename_i fn et hg ht
      split at hx
      · rename_i hp0
        have hp0 : path = #[] := by simpa using hp0
        subst hp0
        obtain ⟨us, ws, k1, k2, k3⟩ := ha.ev h.ks _ _ hf
        have hargs := evs_ok (ha.ev h.ks) hl
        cases k1 with
        | @cons _ u _ us q1 q2 =>
        have hrun : (execOp a.eval o).run P w = .ok (.enter g (u :: us ++ args.toList.map a.eval).toArray) w := by
          have := run_callFunc (P := P) htb hg (u :: us ++ args.toList.map a.eval).toArray w
          unfold execOp
          rw [ho]
          simp only [resolve, k3, Deferred.ofValue, Sem.run_bind, Sem.run_pure, Result.andThen_ok, invoke]
          have e : ((u :: us).toArray ++ Array.map a.eval args) = (u :: us ++ args.toList.map a.eval).toArray := by
            apply Array.ext'; simp
          rw [e]
          simp only [List.cons_append, List.getElem?_toArray, List.getElem?_cons_zero, receiverVia, follow, Sem.run_bind, Sem.run_pure, Result.andThen_ok, receiverAt, run_underlying ht, Place.get]
          have e2 : #[u] ++ (u :: (us ++ args.toList.map a.eval)).toArray.extract 1 (u :: (us ++ args.toList.map a.eval)).toArray.size = (u :: (us ++ args.toList.map a.eval)).toArray := by
            apply Array.ext'; simp [List.take_of_length_le]
          rw [e2]
          exact this
        unfold Oper.wp
        rw [hrun]
        refine (hcf g _ st.hp C w _ hC h (All2.cons (show SV.rel C (ptrSV p) u from q1) ((ptrs_rel q2).append hargs)) Φ hx).mono ?_
        rintro e w' ⟨C', v, sv, hp', rfl, m1, m2, m3, m4⟩
        exact hK C' sv hp' v w' m3 m2 m1 m4
      · exact hx.elim
    · exact hx.elim
  · rename_i name t b oo l hf hl
    split at hx
    · rename_i g hm
      split at hx
      · rename_i fn hg
        obtain ⟨gg, c, k1, k2⟩ := ha.ev h.ks _ _ hf
        have hargs := evs_ok (ha.ev h.ks) hl
        have hrun : (execOp a.eval o).run P w = .ok (.enter g (.pointer (some ⟨gg, oo, none⟩) :: args.toList.map a.eval).toArray) w := by
          unfold execOp
          rw [ho]
          simp only [resolve, k2, Deferred.ofValue, Sem.run_bind, Sem.run_pure, Result.andThen_ok, invoke]
          have e : #[Value.iface t (.pointer (some ⟨gg, oo, none⟩))] ++ Array.map a.eval args = (Value.iface t (.pointer (some ⟨gg, oo, none⟩)) :: args.toList.map a.eval).toArray := by
            apply Array.ext'; simp
          rw [e]
          have e2 : (Value.iface t (.pointer (some ⟨gg, oo, none⟩)) :: args.toList.map a.eval).toArray.extract 1 (Value.iface t (.pointer (some ⟨gg, oo, none⟩)) :: args.toList.map a.eval).toArray.size = (args.toList.map a.eval).toArray := by
            apply Array.ext'; simp [List.take_of_length_le]
          simp only [List.getElem?_toArray, List.getElem?_cons_zero, e2]
          exact run_callMethod htb hm hg _ _ w
        unfold Oper.wp
        rw [hrun]
        refine (hcf g _ st.hp C w _ hC h (All2.cons (show SV.rel C (.sc (.ptr b oo)) _ from ⟨gg, c, k1, rfl⟩) hargs) Φ hx).mono ?_
        rintro e w' ⟨C', v, sv, hp', rfl, m1, m2, m3, m4⟩
        exact hK C' sv hp' v w' m3 m2 m1 m4
      · exact hx.elim
    · exact hx.elim
  · exact hx.elim
theorem xinvoke_ok (htb : TbOk P tb) (hcf : CfOk P X ft cf) (hC : C.Is X ft) (h : HRel C st.hp w) (ha : ARel C st a) {o : Oper} {r : Operand} {name : String} {args : Array Operand} {ats : Array TypeId} (ho : o.op = .call { callee := .invoke r name, args, argTypes := ats }) {K : Act → World → Prop} {Q : Exit → Act → World → Prop} {Φ : Env → SV × Hp → Prop}
    (hx : (xinvoke P tb cf (xev st.hp.gh.k st.get) r name args st.hp).holds Φ C.V) (hK : ∀ C' sv hp' v w', Kp C w C' w' → HRel C' hp' w' → sv.rel C' v → Φ C'.V (sv, hp') → K (a.put o.dst v) w') : o.wp P a w K Q := by
  unfold xinvoke at hx
  split at hx
  · rename_i t c l hf hl
    split at hx
    · rename_i g hm
      split at hx
      · rename_i fn hg
        obtain ⟨u, k1, k2⟩ := ha.ev h.ks _ _ hf
        have hargs := evs_ok (ha.ev h.ks) hl
        have hrun : (execOp a.eval o).run P w = .ok (.enter g (u :: args.toList.map a.eval).toArray) w := by
          unfold execOp
          rw [ho]
          simp only [resolve, k2, Sem.run_bind, Sem.run_pure, Result.andThen_ok, invoke]
          have e : #[Value.iface t u] ++ Array.map a.eval args = (Value.iface t u :: args.toList.map a.eval).toArray := by
            apply Array.ext'; simp
          rw [e]
          have e2 : (Value.iface t u :: args.toList.map a.eval).toArray.extract 1 (Value.iface t u :: args.toList.map a.eval).toArray.size = (args.toList.map a.eval).toArray := by
            apply Array.ext'; simp [List.take_of_length_le]
          simp only [List.getElem?_toArray, List.getElem?_cons_zero, e2]
          exact run_callMethod htb hm hg u _ w
        unfold Oper.wp
        rw [hrun]
        refine (hcf g _ st.hp C w _ hC h (All2.cons (show SV.rel C (.sc c) u from k1) hargs) Φ hx).mono ?_
        rintro e w' ⟨C', v, sv, hp', rfl, m1, m2, m3, m4⟩
        exact hK C' sv hp' v w' m3 m2 m1 m4
      · exact hx.elim
    · exact hx.elim
  · exact hx.elim
theorem xoper_ok (htb : TbOk P tb) (hcf : CfOk P X ft cf) (hC : C.Is X ft) (h : HRel C st.hp w) (ha : ARel C st a) {o : Oper} {K : Act → World → Prop} {Q : Exit → Act → World → Prop} {Φ : Env → SV × Hp → Prop}
    (hx : (xoper P tb cf st o).holds Φ C.V) (hK : ∀ C' sv hp' v w', Kp C w C' w' → HRel C' hp' w' → sv.rel C' v → Φ C'.V (sv, hp') → K (a.put o.dst v) w') : o.wp P a w K Q := by
  unfold xoper at hx
  split at hx
  · rename_i sv hp1
    obtain ⟨v, k1, k2⟩ := pop_ok (P := P) h.ks (ha.ev h.ks) o sv hp1
    unfold Oper.wp
    rw [k2 w]
    exact hK C sv st.hp v w (.refl C w) h k1 hx
  · split at hx
    · rename_i f args ats hop
      exact xcall_ok htb hcf hC h ha hop hx hK
    · rename_i r name args ats hop
      exact xinvoke_ok htb hcf hC h ha hop hx hK
    · obtain ⟨C', w', n, v, sv, hp', k1, k2, k3, k4, k5, k6⟩ := xop_ok (P := P) h (ha.ev h.ks) o Φ hx
      unfold Oper.wp
      rw [k1]
      rcases k2 with rfl | ⟨rfl, rfl⟩
      · exact hK C' sv hp' v w' k5 k4 k3 k6
      · exact hK C' sv hp' Go.undef w' k5 k4 k3 k6
theorem St.put_hp (st : St) (d : Option Tmp) (v : SV) (hp : Hp) : (st.put d v hp).hp = hp := by
  unfold St.put
  split
  · cases Nat.blt _ _ <;> rfl
  · rfl
/-- one operation of a region -/
theorem xstep_ok2 (htb : TbOk P tb) (hcf : CfOk P X ft cf) (hC : C.Is X ft) (h : HRel C st.hp w) (ha : ARel C st a) {ops : Array Oper} {o : Oper} {K : Act → World → Prop} {Q : Exit → Act → World → Prop} {Φ : Env → St → Prop}
    (hx : (xstep P tb cf ops st o).holds Φ C.V) (hK : ∀ C' sv hp' v w', Kp C w C' w' → HRel C' hp' w' → ARel C' (st.put o.dst sv hp') (a.put o.dst v) → Φ C'.V (st.put o.dst sv hp') → K (a.put o.dst v) w') :
    if Region.wanted o (yielded ops a.tmps) then o.wp P a w K Q else K (a.put o.dst Go.undef) w := by
  unfold xstep at hx
  split at hx
  · exact hx.elim
  · rename_i e he
    obtain ⟨s, hw⟩ := xwant_ok ha he
    obtain ⟨hpf, hf, _, _, _, _, _, _, hh⟩ := xif_holds h s hx
    simp only [St.putK_eq] at hh
    cases hb : e.tr C.V with
    | true =>
      rw [hw, hb, if_pos rfl]
      have h1 := hh.1 hb
      rw [T.holds_bind] at h1
      refine xoper_ok (st := ⟨st.sz, st.tmps, hpf⟩) htb hcf hC hf (ha.hp _) h1 fun C' sv hp' v w' k1 k2 k3 k4 => ?_
      exact hK C' sv hp' v w' k1 k2 ((ha.le k1.le).put k3 o.dst hp') k4
    | false =>
      rw [hw, hb, if_neg (by decide)]
      exact hK C _ _ _ w (.refl C w) hf (ha.put (SV.rel_undef C) o.dst hpf) (hh.2 hb)
theorem xstep_ok (htb : TbOk P tb) (hcf : CfOk P X ft cf) (hC : C.Is X ft) (h : HRel C st.hp w) (ha : ARel C st a) {ops : Array Oper} {o : Oper} {K : Act → World → Prop} {Q : Exit → Act → World → Prop} {Φ : Env → St → Prop}
    (hx : (xstep P tb cf ops st o).holds Φ C.V) (hK : ∀ C' st' a' w', Kp C w C' w' → HRel C' st'.hp w' → ARel C' st' a' → Φ C'.V st' → K a' w') :
    if Region.wanted o (yielded ops a.tmps) then o.wp P a w K Q else K (a.put o.dst Go.undef) w :=
  xstep_ok2 htb hcf hC h ha hx fun C' sv hp' v w' k1 k2 k3 k4 => hK C' _ _ w' k1 (by rw [St.put_hp]; exact k2) k3 k4
theorem xlist_ok (htb : TbOk P tb) (hcf : CfOk P X ft cf) {ops : Array Oper} {Q : Exit → Act → World → Prop} {Φ : Env → St → Prop} : ∀ (l : List Oper) {C : Ctx} {w : World} {st : St} {a : Act}, C.Is X ft → HRel C st.hp w → ARel C st a →
    (xlist P tb cf ops l st).holds Φ C.V → (∀ C' st' a' w', Kp C w C' w' → HRel C' st'.hp w' → ARel C' st' a' → Φ C'.V st' → Q .normal a' w') → wpList P ops Q l a w
  | [], C, w, st, a, hC, h, ha, hx, hK => hK C st a w (.refl C w) h ha hx
  | o :: rest, C, w, st, a, hC, h, ha, hx, hK => by
    unfold xlist at hx
    rw [T.holds_bind] at hx
    refine wpList_step fun K hKK => ?_
    refine xstep_ok htb hcf hC h ha hx fun C' st' a' w' k1 k2 k3 k4 => hKK _ _ ?_
    exact xlist_ok htb hcf rest (hC.le k1.le) k2 k3 k4 fun C2 st2 a2 w2 m1 m2 m3 m4 => hK C2 st2 a2 w2 (k1.trans m1) m2 m3 m4
end
/-! ### a part of a region that only looks -/
def pload (P : Program) (t : TypeId) (a : SV) (hs : Hs) : Option SV := (ploadA P t a hs).map .pv
def pstill (P : Program) (ev : Operand → Option SV) (hp : Hp) (op : Op) : Option SV :=
  match pop P hp.gh.k ev op with
  | some v => some v
  | none =>
    match op with
    | .load t a => o1 (ev a) fun a => pload P t a hp.H
    | _ => none
def stillCount : List Oper → Nat
  | [] => 0
  | o :: rest => if stillKind o.op then stillCount rest + 1 else 0
def xstill (P : Program) (ops : Array Oper) : List Oper → St → T St
  | [], st => .ret st
  | o :: rest, st =>
    match xwant ops st o with
    | none => .bad "guard"
    | some e => xif e st.hp (fun hp => match pstill P (xev hp.gh.k st.get) hp o.op with
        | some sv => st.putK o.dst sv hp fun st => xstill P ops rest st
        | none => .bad (opName o.op)) (fun hp => st.putK o.dst SV.undef hp fun st => xstill P ops rest st)
section
variable {P : Program} {C : Ctx} {w : World} {st : St} {a : Act}
theorem pstill_ok (h : HRel C st.hp w) {ev : Operand → Option SV} {ρ : Operand → Value} (he : EvOk C ev ρ) {o : Oper} {sv : SV} (hs : pstill P ev st.hp o.op = some sv) : ∃ v, sv.rel C v ∧ (execOp ρ o).run P w = .ok (.value v) w := by
  unfold pstill at hs
  split at hs
  · rename_i v hv
    cases hs
    obtain ⟨u, k1, k2⟩ := pop_ok (P := P) h.ks he o _ hv
    exact ⟨u, k1, k2 w⟩
  · split at hs
    · rename_i t ad hop
      cases hv : ev ad with
      | none => rw [hv] at hs; cases hs
      | some sa =>
        rw [hv] at hs
        simp only [o1, pload] at hs
        obtain ⟨p, hp1, rfl⟩ := Option.map_eq_some_iff.1 hs
        obtain ⟨u, q1, q2⟩ := ploadA_ok (P := P) h (he _ _ hv) hp1
        refine ⟨u, q1, ?_⟩
        unfold execOp
        rw [hop]
        simp only [Sem.run_bind, Sem.run_pure, Result.andThen_ok, q2]
    · cases hs
theorem xstill_ok {ops : Array Oper} {K : Act → Prop} {Φ : Env → St → Prop} : ∀ (l : List Oper) {st : St} {a : Act}, HRel C st.hp w → ARel C st a → (xstill P ops l st).holds Φ C.V →
    (∀ st' a', HRel C st'.hp w → ARel C st' a' → Φ C.V st' → K a') → wpStill P ops w K l a
  | [], st, a, h, ha, hx, hK => hK st a h ha hx
  | o :: rest, st, a, h, ha, hx, hK => by
    unfold xstill at hx
    split at hx
    · exact hx.elim
    · rename_i e he
      obtain ⟨s, hw⟩ := xwant_ok ha he
      obtain ⟨hpf, hf, _, _, _, _, _, _, hh⟩ := xif_holds h s hx
      simp only [St.putK_eq] at hh
      unfold wpStill
      cases hb : e.tr C.V with
      | true =>
        rw [hw, hb, if_pos rfl]
        have h1 := hh.1 hb
        split at h1
        · rename_i sv hs
          obtain ⟨v, k1, k2⟩ := pstill_ok (st := ⟨st.sz, st.tmps, hpf⟩) (P := P) hf (ha.ev hf.ks) hs
          unfold Oper.still
          rw [k2]
          exact ⟨rfl, xstill_ok rest (by rw [St.put_hp]; exact hf) (ha.put k1 o.dst hpf) h1 hK⟩
        · exact h1.elim
      | false =>
        rw [hw, hb, if_neg (by decide)]
        exact xstill_ok rest (by rw [St.put_hp]; exact hf) (ha.put (SV.rel_undef C) o.dst hpf) (hh.2 hb) hK
end
/-! ### orders that come to the same -/
def T.flat {α : Type} [DecidableEq α] : T α → T α
  | .both t e =>
    match t.flat, e.flat with
    | .ret x, .ret y => if x = y then .ret x else .both (.ret x) (.ret y)
    | t', e' => .both t' e'
  | .ite c t e => .ite c t.flat e.flat
  | .lets f as s n t => .lets f as s n t.flat
  | .ret a => .ret a
  | .bad w => .bad w
  | .skip => .skip
theorem T.flat_holds {α : Type} [DecidableEq α] {Φ : Env → α → Prop} : ∀ {t : T α} {V : Env}, t.flat.holds Φ V → t.holds Φ V
  | .ret a, V, h => h
  | .bad w, V, h => h
  | .skip, V, h => h
  | .ite c t e, V, h => ⟨fun hc => T.flat_holds (h.1 hc), fun hc => T.flat_holds (h.2 hc)⟩
  | .lets f as s n t, V, h => T.flat_holds (t := t) h
  | .both t e, V, h => by
    have key : ∀ t' e' : T α, t' = t.flat → e' = e.flat → (T.both t' e').holds Φ V → (T.both t e).holds Φ V := fun t' e' h1 h2 hh => by
      subst h1; subst h2
      exact ⟨T.flat_holds hh.1, T.flat_holds hh.2⟩
    simp only [T.flat] at h
    split at h
    · rename_i x y hx hy
      split at h
      · rename_i e; subst e; exact key _ _ hx.symm hy.symm ⟨h, h⟩
      · exact key _ _ hx.symm hy.symm h
    · exact key _ _ rfl rfl h
/-! ### regions whose order is open -/
def T.boths {α : Type} : List (T α) → T α
  | [] => .bad "none"
  | [t] => t
  | t :: ts => .both t (T.boths ts)
theorem T.boths_mem {α : Type} {Φ : Env → α → Prop} {V : Env} : ∀ {l : List (T α)}, (T.boths l).holds Φ V → ∀ t ∈ l, t.holds Φ V
  | [], h, _, _ => h.elim
  | [t], h, u, hu => by simp only [List.mem_singleton] at hu; subst hu; exact h
  | t :: t2 :: ts, h, u, hu => by
    rcases List.mem_cons.1 hu with rfl | hu
    · exact h.1
    · exact T.boths_mem h.2 u hu
/-- each operation has numbers of its own -/
def Hp.split (hp : Hp) (k s : Nat) : Hp :=
  { hp with nx := hp.nx + k * s, rest := (List.range k).map (fun j => (hp.nx + j * s, hp.nx + (j + 1) * s)) ++ hp.rest }
def Hp.enter (hp : Hp) (r : Nat × Nat) : Hp := { hp with nx := r.1, lim := r.2, rest := (hp.nx, hp.lim) :: hp.rest.erase r }
def St.leave (st : St) (nx lim : Nat) (rest : List (Nat × Nat)) : T St :=
  if st.hp.rest = (nx, lim) :: rest then .ret ⟨st.sz, st.tmps, { st.hp with nx := nx, lim := lim, rest := rest }⟩ else .bad "numbers"

theorem ptrRel.fn {C : Ctx} {p : Nat × Nat} {v v' : Value} (h : ptrRel C p v) (h' : ptrRel C p v') : v = v' := by
  obtain ⟨g, c, h1, rfl⟩ := h
  obtain ⟨g', c', h1', rfl⟩ := h'
  rw [h1] at h1'; cases h1'; rfl
theorem All2.fn {α β : Type} {R : α → β → Prop} (hR : ∀ a b b', R a b → R a b' → b = b') {l : List α} {m m' : List β} (h : All2 R l m) (h' : All2 R l m') : m = m' := by
  induction h generalizing m' with
  | nil => cases h'; rfl
  | cons a b ih =>
    cases h' with
    | cons a' b' =>
      have e1 := hR _ _ _ a a'
      have e2 := ih b'
      subst e1; subst e2; rfl
theorem SC.rel.fn {C : Ctx} : ∀ {c : SC} {v v' : Value}, c.rel C v → c.rel C v' → v = v'
  | .int k e, v, v', ⟨_, h⟩, ⟨_, h'⟩ => h.trans h'.symm
  | .bool e, v, v', ⟨_, h⟩, ⟨_, h'⟩ => h.trans h'.symm
  | .str s, v, v', h, h' => Eq.trans (show v = _ from h) (Eq.symm (show v' = _ from h'))
  | .ptr b o, v, v', h, h' => ptrRel.fn (p := (b, o)) h h'
  | .px b o n e, v, v', ⟨_, _, _, g, c, h1, h2⟩, ⟨_, _, _, g', c', h1', h2'⟩ => by rw [h1] at h1'; cases h1'; exact h2.trans h2'.symm
  | .nilp, v, v', h, h' => Eq.trans (show v = _ from h) (Eq.symm (show v' = _ from h'))
  | .slice b o len cap el, v, v', ⟨g, c, h1, h2, _⟩, ⟨g', c', h1', h2', _⟩ => by rw [h1] at h1'; cases h1'; exact h2.trans h2'.symm
  | .nils, v, v', h, h' => Eq.trans (show v = _ from h) (Eq.symm (show v' = _ from h'))
  | .map b, v, v', ⟨g, c, h1, h2⟩, ⟨g', c', h1', h2'⟩ => by rw [h1] at h1'; cases h1'; exact h2.trans h2'.symm
  | .nilm, v, v', h, h' => Eq.trans (show v = _ from h) (Eq.symm (show v' = _ from h'))
  | .fn f fs cs, v, v', ⟨vs, ws, h1, h2, h3⟩, ⟨vs', ws', h1', h2', h3'⟩ => by
    have e1 := All2.fn (R := ptrRel C) (fun _ _ _ => ptrRel.fn) h1 h1'
    have e2 := All2.fn (R := ptrRel C) (fun _ _ _ => ptrRel.fn) h2 h2'
    subst e1; subst e2; exact h3.trans h3'.symm
  | .mth name t b o, v, v', ⟨g, c, h1, h2⟩, ⟨g', c', h1', h2'⟩ => by rw [h1] at h1'; cases h1'; exact h2.trans h2'.symm
  | .nilFunc, v, v', h, h' => Eq.trans (show v = _ from h) (Eq.symm (show v' = _ from h'))
  | .iface t c, v, v', ⟨u, h1, h2⟩, ⟨u', h1', h2'⟩ => by rw [h2, h2', SC.rel.fn h1 h1']
  | .nilIface, v, v', h, h' => Eq.trans (show v = _ from h) (Eq.symm (show v' = _ from h'))
  | .ext i, v, v', ⟨_, h, _⟩, ⟨_, h', _⟩ => h.trans h'.symm
  | .xs i n, v, v', ⟨_, h, _⟩, ⟨_, h', _⟩ => h.trans h'.symm
  | .epx e, v, v', ⟨_, h⟩, ⟨_, h'⟩ => h.trans h'.symm
  | .undef, v, v', h, h' => Eq.trans (show v = _ from h) (Eq.symm (show v' = _ from h'))
theorem PV.rel.fn {C : Ctx} : ∀ {p : PV} {v v' : Value}, p.rel C v → p.rel C v' → v = v'
  | .one c, v, v', h, h' => SC.rel.fn (c := c) h h'
  | .agg cs, v, v', ⟨vs, h1, h2⟩, ⟨vs', h1', h2'⟩ => by
    have e1 := All2.fn (R := SC.rel C) (fun _ _ _ => SC.rel.fn) h1 h1'
    subst e1; exact h2.trans h2'.symm
theorem SV.rel.fn {C : Ctx} : ∀ {p : SV} {v v' : Value}, p ≠ .any → p.rel C v → p.rel C v' → v = v'
  | .any, v, v', hn, h, h' => absurd rfl hn
  | .pv c, v, v', _, h, h' => PV.rel.fn (p := c) h h'
  | .tup cs, v, v', _, ⟨vs, h1, h2⟩, ⟨vs', h1', h2'⟩ => by
    have e1 := All2.fn (R := PV.rel C) (fun _ _ _ => PV.rel.fn) h1 h1'
    subst e1; exact h2.trans h2'.symm
/-- a load that was taken first -/
inductive HK where
  | ld (T : TypeId) (ad : SV)
  | cm (op : BinOp) (T : TypeId) (x y : SV)
structure Hd where
  i : Nat
  K : HK
  sv : SV
/-- are two pointers the same? -/
def pcmp (P : Program) (op : BinOp) (t : TypeId) (x y : SV) (hs : Hs) : Option SV :=
  match x, y with
  | .pv (.one (.ptr b o)), .pv (.one (.ptr b' o')) =>
    match op, xeqC P hs t (.ptr b o) (.ptr b' o') with
    | .eql, some e => some (.sc (.bool e))
    | .neq, some e => some (.sc (.bool (mkNo e)))
    | _, _ => none
  | _, _ => none
def plook (P : Program) (hs : Hs) : HK → Option SV
  | .ld T ad => pload P T ad hs
  | .cm op T x y => pcmp P op T x y hs
def heldStep (P : Program) (ops : Array Oper) (j : Nat) (ld : Bool) (hs : Hs) : List Hd → Option (List Hd)
  | [] => some []
  | q :: rest => bif (ld && befBit .any ops j q.i) then heldStep P ops j ld hs rest else
    match plook P hs q.K with
    | some sv => bif svSame sv q.sv then (heldStep P ops j ld hs rest).map (q :: ·) else none
    | none => none
/-- slots that are not known any more -/
def St.blur (st : St) (W : List Nat) : St := W.foldl (fun st d => st.put (some d) .any st.hp) st
def St.blurK {β : Type} (k : St → β) : List Nat → St → β
  | [], st => k st
  | d :: W, st => st.putK (some d) .any st.hp fun st => St.blurK k W st
theorem St.blurK_eq {β : Type} (k : St → β) : ∀ (W : List Nat) (st : St), St.blurK k W st = k (st.blur W)
  | [], st => rfl
  | d :: W, st => by rw [St.blurK, St.putK_eq, St.blurK_eq]; rfl
/-- an operation's own numbers -/
def St.into (sp : Option (Nat × Nat)) (i : Nat) (st : St) : Option St :=
  match sp with
  | none => some st
  | some (nx, s) => if (nx + i * s, nx + (i + 1) * s) ∈ st.hp.rest then some ⟨st.sz, st.tmps, st.hp.enter (nx + i * s, nx + (i + 1) * s)⟩ else none
def St.outof (sp : Option (Nat × Nat)) (i : Nat) (st st' : St) : T St :=
  match sp with
  | none => .ret st'
  | some (nx, s) => st'.leave st.hp.nx st.hp.lim (st.hp.rest.erase (nx + i * s, nx + (i + 1) * s))
def xone (P : Program) (tb : Tb) (cf : Cf) (ops : Array Oper) (sp : Option (Nat × Nat)) (i : Nat) (held : List Hd) (st : St) (k : List Hd → St → T St) : T St :=
  match ops[i]? with
  | some o => match st.into sp i with
    | some st1 => (xstep P tb cf ops st1 o).bind fun st' => (St.outof sp i st st').bind fun st'' => match heldStep P ops i (!stillKind o.op) st''.hp.H held with
      | some held => k held st''
      | none => .bad "held"
    | none => .bad "numbers"
  | none => .bad "order"
def pendOk (P : Program) (ops : Array Oper) (sz : Nat) (ps : List Nat) : Bool :=
  ps.all fun p => match ops[p]? with
    | some o => match allocOf o with
      | some (t, d) => (xzero P t).isSome && Nat.blt d sz
      | none => true
    | none => false
def xanyG (P : Program) (tb : Tb) (cf : Cf) (ops : Array Oper) (sp : Option (Nat × Nat)) : Nat → Nat → List Hd → St → T St
  | 0, m, held, st => match xnext .any ops m with
    | .done => .ret st
    | _ => .bad "order"
  | n + 1, m, held, st =>
    match xnext .any ops m with
    | .done => .ret st
    | .first i => natK i fun i => match ops[i]? with
      | none => .bad "order"
      | some o => match xwant ops st o with
        | none => .bad "guard"
        | some e => xif e st.hp (fun hp => match pop P hp.gh.k (xev hp.gh.k st.get) o.op with
            | some sv => st.putK o.dst sv hp fun st => natK (m ||| (1 <<< i)) fun m => xanyG P tb cf ops sp n m held st
            | none => match o.op with
              | .load t a => match xev hp.gh.k st.get a with
                | some ad => match pload P t ad st.hp.H with
                  | some sv => svK sv fun sv => st.putK o.dst sv hp fun st => natK (m ||| (1 <<< i)) fun m => xanyG P tb cf ops sp n m (⟨i, .ld t ad, sv⟩ :: held) st
                  | none => .bad "load"
                | none => .bad "load where"
              | .binOp bo t x y _ => match xev hp.gh.k st.get x, xev hp.gh.k st.get y with
                | some u, some v => match pcmp P bo t u v st.hp.H with
                  | some sv => svK sv fun sv => st.putK o.dst sv hp fun st => natK (m ||| (1 <<< i)) fun m => xanyG P tb cf ops sp n m (⟨i, .cm bo t u v, sv⟩ :: held) st
                  | none => .bad "binOp"
                | _, _ => .bad "binOp of what"
              | op => .bad (opName op)) (fun hp => st.putK o.dst SV.undef hp fun st => natK (m ||| (1 <<< i)) fun m => xanyG P tb cf ops sp n m held st)
    | .all rs => match xpick .any ops rs with
      | some j => natK j fun j => bif pendOk P ops st.sz (pendL ops rs j) then
          St.blurK (fun st => xone P tb cf ops sp j held st fun held st => natK (m ||| (1 <<< j)) fun m => xanyG P tb cf ops sp n m held st) (pendD ops rs j) st
        else .bad "alloc"
      | none => T.boths (rs.map fun i => natK i fun i => xone P tb cf ops sp i held st fun held st => natK (m ||| (1 <<< i)) fun m => xanyG P tb cf ops sp n m held st)
section
variable {P : Program} {X : Ext} {ft : Ft} {tb : Tb} {cf : Cf} {C : Ctx} {w : World} {st : St} {a : Act}
theorem HRel.sub {hp hp' : Hp} (h : HRel C hp w) (hH : hp'.H = hp.H) (hf : ∀ b, hp'.isFree b → hp.isFree b) (hg : hp'.gh = hp.gh := by rfl) : HRel C hp' w :=
  ⟨⟨fun b blk hb => h.at_ b blk (hH ▸ hb), fun b b' blk blk' g c c' hb hb' => h.inj b b' blk blk' g c c' (hH ▸ hb) (hH ▸ hb')⟩, hg ▸ h.ext, fun b blk g c hb hg => h.apart b blk g c (hH ▸ hb) hg, fun b blk g c hb hit hg => h.own b blk g c (hH ▸ hb) hit hg, fun b hb => h.free b (hf b hb), h.blt⟩
theorem HRel.split {hp : Hp} (h : HRel C hp w) (k s : Nat) (hs : k * s ≤ hp.lim - hp.nx) : HRel C (hp.split k s) w := by
  refine h.sub rfl fun b hb => ?_
  rcases hb with ⟨h1, h2⟩ | ⟨r, hr, h1, h2⟩
  · simp only [Hp.split] at h1 h2; exact .inl ⟨by omega, h2⟩
  · simp only [Hp.split, List.mem_append, List.mem_map, List.mem_range] at hr
    rcases hr with ⟨j, hj, rfl⟩ | hr
    · simp only at h1 h2
      have : (j + 1) * s ≤ k * s := Nat.mul_le_mul_right _ hj
      exact .inl ⟨by omega, by omega⟩
    · exact .inr ⟨r, hr, h1, h2⟩
theorem HRel.enter {hp : Hp} (h : HRel C hp w) {r : Nat × Nat} (hr : r ∈ hp.rest) : HRel C (hp.enter r) w := by
  refine h.sub rfl fun b hb => ?_
  rcases hb with ⟨h1, h2⟩ | ⟨q, hq, h1, h2⟩
  · exact .inr ⟨r, hr, h1, h2⟩
  · simp only [Hp.enter, List.mem_cons] at hq
    rcases hq with rfl | hq
    · exact .inl ⟨h1, h2⟩
    · exact .inr ⟨q, List.mem_of_mem_erase hq, h1, h2⟩
theorem leave_ok {nx lim : Nat} {rest : List (Nat × Nat)} {Φ : Env → St → Prop} (h : HRel C st.hp w) (ha : ARel C st a) (hx : (st.leave nx lim rest).holds Φ C.V) : ∃ st', HRel C st'.hp w ∧ ARel C st' a ∧ Φ C.V st' := by
  unfold St.leave at hx
  split at hx
  · rename_i e
    refine ⟨⟨st.sz, st.tmps, { st.hp with nx := nx, lim := lim, rest := rest }⟩, h.sub rfl fun b hb => ?_, ha.hp _, hx⟩
    rcases hb with ⟨h1, h2⟩ | ⟨q, hq, h1, h2⟩
    · exact .inr ⟨(nx, lim), by rw [e]; simp, h1, h2⟩
    · exact .inr ⟨q, by rw [e]; simp only at hq; simp [hq], h1, h2⟩
  · exact hx.elim

def HeldRel (P : Program) (C : Ctx) (hp : Hp) (held : List Hd) (L : List (Nat × (World → Prop))) : Prop :=
  ∀ q ∈ L, ∃ h ∈ held, h.i = q.1 ∧ plook P hp.H h.K = some h.sv ∧ ∀ C' hp' w', C.le C' → HRel C' hp' w' → plook P hp'.H h.K = some h.sv → q.2 w'
theorem HeldRel.of {P : Program} {C : Ctx} {hp hp' : Hp} {held : List Hd} {L : List (Nat × (World → Prop))} (e : hp'.H = hp.H) (h : HeldRel P C hp held L) : HeldRel P C hp' held L := by
  unfold HeldRel at *
  rw [e]
  exact h
theorem heldStep_ok {ops : Array Oper} {j : Nat} {ld : Bool} {hs : Hs} : ∀ {held held' : List Hd}, heldStep P ops j ld hs held = some held' → ∀ h ∈ held, ((ld && befBit .any ops j h.i) = true) ∨ (h ∈ held' ∧ plook P hs h.K = some h.sv)
  | [], _, _, h, hh => nomatch hh
  | q :: rest, held', hx, h, hh => by
    unfold heldStep at hx
    cases hb : (ld && befBit .any ops j q.i) with
    | true =>
      rw [hb, cond_true] at hx
      rcases List.mem_cons.1 hh with rfl | hh
      · exact .inl hb
      · exact heldStep_ok hx h hh
    | false =>
      rw [hb, cond_false] at hx
      split at hx
      · rename_i sv hs'
        cases hsame : svSame sv q.sv with
        | true =>
          rw [hsame, cond_true] at hx
          have e := svSame_ok hsame
          obtain ⟨l, h1, rfl⟩ := Option.map_eq_some_iff.1 hx
          rcases List.mem_cons.1 hh with rfl | hh
          · exact .inr ⟨List.mem_cons_self, by rw [hs', e]⟩
          · rcases heldStep_ok h1 h hh with k | ⟨k1, k2⟩
            · exact .inl k
            · exact .inr ⟨List.mem_cons_of_mem _ k1, k2⟩
        | false => rw [hsame, cond_false] at hx; cases hx
      · cases hx
theorem pload_any {t : TypeId} {ad sv : SV} {hs : Hs} (h : pload P t ad hs = some sv) : sv ≠ .any := by
  obtain ⟨p, _, rfl⟩ := Option.map_eq_some_iff.1 h
  exact SV.noConfusion
theorem pload_ok {t : TypeId} {ad : SV} {sv : SV} {o : Oper} {x : Operand} {ρ : Operand → Value} (hop : o.op = .load t x) {hp : Hp} (h : HRel C hp w) (he : ad.rel C (ρ x)) (hs : pload P t ad hp.H = some sv) : ∃ v, sv.rel C v ∧ (execOp ρ o).run P w = .ok (.value v) w := by
  obtain ⟨p, hp1, rfl⟩ := Option.map_eq_some_iff.1 hs
  obtain ⟨u, q1, q2⟩ := ploadA_ok (P := P) h he hp1
  refine ⟨u, q1, ?_⟩
  unfold execOp
  rw [hop]
  simp only [Sem.run_bind, Sem.run_pure, Result.andThen_ok, q2]
theorem pcmp_any {op : BinOp} {t : TypeId} {x y sv : SV} {hs : Hs} (h : pcmp P op t x y hs = some sv) : sv ≠ .any := by
  unfold pcmp at h
  split at h
  · split at h <;> first | (cases h; exact SV.noConfusion) | cases h
  · cases h
theorem pcmp_ok {op : BinOp} {t : TypeId} {xo yo : Operand} {ty : Option TypeId} {x y sv : SV} {o : Oper} {ρ : Operand → Value} (hop : ∃ ty, o.op = .binOp op t xo yo ty) {hp : Hp} (h : HRel C hp w) (hu : x.rel C (ρ xo)) (hv : y.rel C (ρ yo)) (hs : pcmp P op t x y hp.H = some sv) : ∃ v, sv.rel C v ∧ (execOp ρ o).run P w = .ok (.value v) w := by
  obtain ⟨ty, hop⟩ := hop
  unfold pcmp at hs
  split at hs
  · rename_i b oo b' oo'
    have hnum : numV (ρ xo) = false ∨ numV (ρ yo) = false := by
      obtain ⟨g, c, _, e⟩ := hu
      rw [e]; exact .inl rfl
    have hg : (eqGuard op t xo yo (ρ xo) (ρ yo)).run P w = .ok () w := eqGuard_pv (p := .one (.ptr b oo)) (q := .one (.ptr b' oo')) hu hv (fun i e => by cases e) (fun i e => by cases e) (by simp [isNilI, isAggV])
    split at hs
    · rename_i e he
      cases hs
      have kk := xeqC_ok (w := w) h.toHCore he hu hv 9999
      refine ⟨.bool (e.tr C.V), ⟨kk.1, rfl⟩, ?_⟩
      unfold execOp
      rw [hop]
      simp only [Sem.run_bind, hg, Result.andThen_ok, (binOp_eq hnum).1, Op.equal, Op.maxDepth, kk.2, Sem.run_pure]
    · rename_i e he
      cases hs
      have kk := xeqC_ok (w := w) h.toHCore he hu hv 9999
      obtain ⟨n1, n2⟩ := mkNo_ok kk.1
      refine ⟨.bool (!(e.tr C.V)), ⟨n1, by rw [n2]⟩, ?_⟩
      unfold execOp
      rw [hop]
      simp only [Sem.run_bind, hg, Result.andThen_ok, (binOp_eq hnum).2, Op.equal, Op.maxDepth, kk.2, Sem.run_pure]
    · cases hs
  · cases hs
/-- behind an operation that was carried out -/
theorem held_next {ops : Array Oper} {L : List (Nat × (World → Prop))} {hp : Hp} {C' : Ctx} {hp' : Hp} {w' : World} {held held' : List Hd} {i : Nat} {o : Oper} {lst : Array Bool} (ho : ops[i]? = some o) (hl0 : lst.getD i false = true) (hH : HeldRel P C hp held L) (hC : C.le C') (h : HRel C' hp' w')
    (hx : heldStep P ops i (!stillKind o.op) hp'.H held = some held') : ∃ L', HeldRel P C' hp' held' L' ∧ SL .any ops L' lst w' ∧
      (∀ listed w, (∀ k, lst.getD k false = true → listed.getD k false = true) → SL .any ops L' listed w → SL .any ops L listed w) := by
  refine ⟨L.filter fun q => !((!stillKind o.op) && befBit .any ops i q.1), fun q hq => ?_, fun q hq => ?_, fun listed w2 hl hS q hq => ?_⟩
  · obtain ⟨q1, q2⟩ := List.mem_filter.1 hq
    obtain ⟨h0, k1, k2, _, k3⟩ := hH q q1
    rcases heldStep_ok hx h0 k1 with k | ⟨k, k4⟩
    · rw [k2] at k; rw [k] at q2; cases q2
    · exact ⟨h0, k, k2, k4, fun C2 hp2 w2 l1 l2 l3 => k3 C2 hp2 w2 (hC.trans l1) l2 l3⟩
  · obtain ⟨q1, q2⟩ := List.mem_filter.1 hq
    obtain ⟨h0, k1, k2, _, k3⟩ := hH q q1
    rcases heldStep_ok hx h0 k1 with k | ⟨_, k⟩
    · rw [k2] at k; rw [k] at q2; cases q2
    · exact .inr (k3 C' hp' w' hC h k)
  · cases hb : ((!stillKind o.op) && befBit .any ops i q.1) with
    | false => exact hS q (List.mem_filter.2 ⟨hq, by rw [hb]; rfl⟩)
    | true =>
      simp only [Bool.and_eq_true, Bool.not_eq_true'] at hb
      exact .inl ⟨i, fun o' ho' => by rw [ho] at ho'; cases ho'; exact hb.1, befBit_ok hb.2, hl i hl0⟩
theorem Ctx.le.trans' {C C' C'' : Ctx} (h : C.le C') (k : C'.le C'') : C.le C'' := h.trans k
theorem ARel.blur (W : List Nat) : ∀ {st : St}, ARel C st a → ARel C (st.blur W) a := by
  induction W with
  | nil => intro st h; exact h
  | cons d W ih =>
    intro st h
    refine ih (st := st.put (some d) .any st.hp) ⟨by rw [St.put_sz]; exact h.sz, by rw [St.put_sz]; exact h.most, fun n => ?_, h.defers⟩
    rw [put_get h.most]
    split
    · trivial
    · exact h.rel n
theorem St.blur_hp (W : List Nat) : ∀ (st : St), (st.blur W).hp = st.hp := by
  induction W with
  | nil => intro st; rfl
  | cons d W ih => intro st; exact (ih _).trans (St.put_hp _ _ _ _)
theorem St.blur_sz (W : List Nat) : ∀ (st : St), (st.blur W).sz = st.sz := by
  induction W with
  | nil => intro st; rfl
  | cons d W ih => intro st; exact (ih _).trans (St.put_sz _ _ _ _)
theorem St.blur_any (W : List Nat) : ∀ {st : St} {d : Nat}, st.sz ≤ 1024 → ((st.get d = .any) ∨ d ∈ W) → d < st.sz → (st.blur W).get d = .any := by
  induction W with
  | nil => intro st d _ h _; exact h.elim id fun h => nomatch h
  | cons e W ih =>
    intro st d hm h hd
    refine ih (st := st.put (some e) .any st.hp) (by rw [St.put_sz]; exact hm) ?_ (by rw [St.put_sz]; exact hd)
    rw [put_get hm]
    by_cases c : d = e ∧ e < st.sz
    · rw [if_pos c]; exact .inl rfl
    · rw [if_neg c]
      rcases h with h | h
      · exact .inl h
      · rcases List.mem_cons.1 h with rfl | h
        · exact absurd ⟨rfl, hd⟩ c
        · exact .inr h
theorem into_ok {sp : Option (Nat × Nat)} {i : Nat} {st1 : St} (h : HRel C st.hp w) (hi : st.into sp i = some st1) : HRel C st1.hp w ∧ ∃ hp, st1 = ⟨st.sz, st.tmps, hp⟩ ∧ hp.H = st.hp.H := by
  unfold St.into at hi
  split at hi
  · cases hi; exact ⟨h, st.hp, rfl, rfl⟩
  · split at hi
    · rename_i hr
      cases hi
      exact ⟨h.enter hr, _, rfl, rfl⟩
    · cases hi
theorem outof_ok {sp : Option (Nat × Nat)} {i : Nat} {st st' : St} {Φ : Env → St → Prop} (h : HRel C st'.hp w) (hx : (St.outof sp i st st').holds Φ C.V) : ∃ hp, HRel C hp w ∧ Φ C.V ⟨st'.sz, st'.tmps, hp⟩ := by
  unfold St.outof at hx
  split at hx
  · exact ⟨st'.hp, h, hx⟩
  · unfold St.leave at hx
    split at hx
    · rename_i nx s e
      refine ⟨{ st'.hp with nx := st.hp.nx, lim := st.hp.lim, rest := st.hp.rest.erase (nx + i * s, nx + (i + 1) * s) }, h.sub rfl fun b hb => ?_, hx⟩
      rcases hb with ⟨h1, h2⟩ | ⟨q, hq, h1, h2⟩
      · exact .inr ⟨(st.hp.nx, st.hp.lim), by rw [e]; simp, h1, h2⟩
      · exact .inr ⟨q, by rw [e]; simp only at hq; simp [hq], h1, h2⟩
    · exact hx.elim
/-- a new variable is made -/
theorem xstep_alloc {ops : Array Oper} {o : Oper} {t : TypeId} {d : Nat} (hal : allocOf o = some (t, d)) {Φ : Env → St → Prop} {V : Env} (hx : (xstep P tb cf ops st o).holds Φ V) :
    st.hp.can = true ∧ ∃ pz, xzero P t = some pz ∧ pz.cells.all SC.ok = true ∧ Φ V (st.put (some d) (.sc (.ptr st.hp.nx 0)) { st.hp with H := hput st.hp.H st.hp.nx (.cells pz.cells t 0 false), nx := st.hp.nx + 1 }) := by
  obtain ⟨h1, h2, h3⟩ := allocOf_ok hal
  unfold xstep xwant at hx
  rw [h2] at hx
  simp only [xif, E.known, T.holds_bind, St.putK_eq, h3] at hx
  unfold xoper at hx
  rw [h1] at hx
  simp only [pop, xop, xalloc] at hx
  split at hx
  · rename_i pz hz
    unfold xnew at hx
    split at hx
    · rename_i hc
      rw [scsK_eq, natK_eq, hputK_eq, natK_eq] at hx
      exact ⟨hc.1, pz, hz, hc.2, hx⟩
    · exact hx.elim
  · exact hx.elim
theorem HRel.adopt {C : Ctx} {hp : Hp} {w : World} (h : HRel C hp w) {g c : Nat} {blk : Blk} {o : Obj} (hcan : hp.can = true) (hgo : w.heap[g]? = some o) (hb : blk.rel (C.add hp.nx g c) c (some o)) (hgS : ¬ C.S g) (hbl : ∀ b c', C.bl b ≠ some (g, c')) :
    HRel (C.add hp.nx g c) { hp with H := hput hp.H hp.nx blk, nx := hp.nx + 1 } w := by
  have hn := (h.free hp.nx (Hp.can_free hcan)).1
  obtain ⟨n, hnn⟩ : ∃ n, n = hp.nx := ⟨_, rfl⟩
  have hcn := @Hp.can_next hp hcan
  rw [← hnn] at hn hb hcn ⊢
  have hle := Ctx.le_add (g := g) (c := c) hn
  refine ⟨⟨fun b x hx => ?_, fun b b' x x' g1 c1 c2 hx hx' hg hg' => ?_⟩, (h.ext.keep (Nat.le_refl _) (fun k hk => rfl)).mono hle.bl, fun b x g1 c1 hx hb1 => ?_, fun b x g1 c1 hx hit hb1 => ?_, fun b hb1 => ?_, fun b g1 c1 hb1 => ?_⟩
  · rcases hget_put _ _ _ _ _ hx with ⟨rfl, rfl⟩ | hx
    · exact ⟨g, c, by simp [Ctx.add], by rw [hgo]; exact hb⟩
    · obtain ⟨g1, c', k1, k2⟩ := h.at_ b x hx
      exact ⟨g1, c', hle.bl _ _ k1, k2.le hle⟩
  · by_cases e : b = n <;> by_cases e' : b' = n
    · rw [e, e']
    · exfalso
      simp [Ctx.add, e] at hg
      simp [Ctx.add, e'] at hg'
      exact hbl b' c2 (by rw [hg', hg.1])
    · exfalso
      simp [Ctx.add, e] at hg
      simp [Ctx.add, e'] at hg'
      exact hbl b c1 (by rw [hg, hg'.1])
    · simp [Ctx.add, e] at hg
      simp [Ctx.add, e'] at hg'
      rcases hget_put _ _ _ _ _ hx with ⟨k, _⟩ | hx
      · exact absurd k e
      · rcases hget_put _ _ _ _ _ hx' with ⟨k, _⟩ | hx'
        · exact absurd k e'
        · exact h.inj b b' x x' g1 c1 c2 hx hx' hg hg'
  · by_cases e : b = n
    · simp [Ctx.add, e] at hb1; rw [← hb1.1]; exact hgS
    · simp [Ctx.add, e] at hb1
      rcases hget_put _ _ _ _ _ hx with ⟨k, _⟩ | hx
      · exact absurd k e
      · exact h.apart b x g1 c1 hx hb1
  · by_cases e : b = n
    · simp [Ctx.add, e] at hb1; exact .inl hb1.1.symm
    · simp [Ctx.add, e] at hb1
      rcases hget_put _ _ _ _ _ hx with ⟨k, _⟩ | hx
      · exact absurd k e
      · exact .inr (h.own b x g1 c1 hx hit hb1)
  · obtain ⟨m1, m2⟩ := hcn hb1
    obtain ⟨k1, k2⟩ := h.free b m1
    refine ⟨?_, k2⟩
    simp only [Ctx.add]
    rw [if_neg m2]
    exact k1
  · by_cases e : b = n
    · simp [Ctx.add, e] at hb1; rw [← hb1.1]; exact (Array.getElem?_eq_some_iff.1 hgo).1
    · simp [Ctx.add, e] at hb1; exact h.blt b g1 c1 hb1
/-- fewer blocks that may be written -/
def Ctx.tight (C : Ctx) (w : World) : Ctx := { C with O := fun k => C.O k ∧ k < w.heap.size }
theorem Ctx.le_tight (C : Ctx) (w : World) : C.le (C.tight w) := ⟨fun i hi => ⟨hi, rfl, rfl, rfl⟩, rfl, rfl, fun _ _ h => h⟩
theorem Ctx.tight_le (C : Ctx) (w : World) : (C.tight w).le C := ⟨fun i hi => ⟨hi, rfl, rfl, rfl⟩, rfl, rfl, fun _ _ h => h⟩
theorem HRel.tight {hp : Hp} (h : HRel C hp w) {o : Obj} : HRel (C.tight w) hp (w.alloc o) := by
  refine ⟨⟨fun b blk hb => ?_, h.inj⟩, h.ext.keep (by simp) (fun k hk => heap_alloc_old w o (h.ext.lt k hk)), h.apart, fun b blk g c hb hit hg => ⟨h.own b blk g c hb hit hg, h.blt b g c hg⟩, h.free, fun b g c hb => by have := h.blt b g c hb; simp; omega⟩
  obtain ⟨g, c, k1, k2⟩ := h.at_ b blk hb
  exact ⟨g, c, k1, by rw [heap_alloc_old w o k2.lt]; exact k2.le (C.le_tight w)⟩
theorem Kp.tight {C0 : Ctx} {w0 : World} (k : Kp C0 w0 C w) (o : Obj) : Kp C0 w0 (C.tight w) (w.alloc o) :=
  ⟨k.le.trans (C.le_tight w), Nat.le_trans k.size (by simp), k.tape, k.os, k.output, fun g hg h1 h2 => (heap_alloc_old w o (Nat.lt_of_lt_of_le hg k.size)).trans (k.keep g hg h1 h2), k.newS, fun g hg => k.new g hg.1, k.newbl⟩
theorem Kp.adopt {C0 : Ctx} {w0 : World} (k : Kp C0 w0 C w) {n g c : Nat} (hn : C.bl n = none) (hg : w0.heap.size ≤ g) : Kp C0 w0 (C.add n g c) w :=
  ⟨k.le.trans (Ctx.le_add hn), k.size, k.tape, k.os, k.output, k.keep, k.newS, fun b hb => hb.elim (fun e => .inr (by rw [e]; exact hg)) (k.new b), fun b g1 c1 hb => by
    by_cases e : b = n
    · simp [Ctx.add, e] at hb; exact .inr (by omega)
    · simp [Ctx.add, e] at hb; exact k.newbl b g1 c1 hb⟩
theorem put_size (a : Act) (dst : Option Tmp) (v : Value) : (a.put dst v).tmps.size = a.tmps.size := by cases dst <;> simp [Act.put]
theorem put_ne {a : Act} {dst : Option Tmp} {v : Value} {d : Nat} (h : dst ≠ some d) : (a.put dst v).tmps.getD d Go.undef = a.tmps.getD d Go.undef := by
  cases dst with
  | none => rfl
  | some e =>
    simp only [Act.put]
    rw [Array.getD_eq_getD_getElem?, Array.getElem?_setIfInBounds_ne (fun he => h (by rw [he])), ← Array.getD_eq_getD_getElem?]
theorem put_eq {a : Act} {v : Value} {d : Nat} (h : d < a.tmps.size) : (a.put (some d) v).tmps.getD d Go.undef = v := by
  simp only [Act.put]
  rw [Array.getD_eq_getD_getElem?, Array.getElem?_setIfInBounds_self_of_lt h]
  rfl
theorem wpAnyG_end {ops : Array Oper} {Q : Exit → Act → World → Prop} {L : List (Nat × (World → Prop))} {lst : Array Bool} (h : Region.ready .any ops lst = []) (hq : Q .normal a w) : ∀ f, wpAnyG P .any ops Q L f lst a w
  | 0 => ⟨h, hq⟩
  | f + 1 => ⟨fun _ => hq, fun i hi => by rw [h] at hi; cases hi⟩
/-- what an operation makes that makes a new variable -/
theorem wp_alloc {o : Oper} {t : TypeId} {d : Nat} (hal : allocOf o = some (t, d)) {z : Value} (hz : ∀ w, (zeroValue t).run P w = .ok z w) {K : Act → World → Prop} {Q : Exit → Act → World → Prop} (hK : K (a.put o.dst (.pointer (some ⟨w.heap.size, 0, none⟩))) (w.alloc (.cells z.cells t (0, 0)))) : o.wp P a w K Q := by
  obtain ⟨h1, h2, h3⟩ := allocOf_ok hal
  unfold Oper.wp
  have : (execOp a.eval o).run P w = .ok (.value (.pointer (some ⟨w.heap.size, 0, none⟩))) (w.alloc (.cells z.cells t (0, 0))) := by
    unfold execOp
    rw [h1]
    simp [Instr.alloc, hz, newVar, newRow, alloc_eq]
  rw [this]
  exact hK
/-- what was made early -/
structure Dn (P : Program) (ops : Array Oper) (w0 : World) (C : Ctx) (m : Nat) (a : Act) (w : World) (D : List (Nat × Nat)) : Prop where
  op : ∀ p ∈ D, ∃ o t d z, ops[p.1]? = some o ∧ allocOf o = some (t, d) ∧ p.1 ∈ Region.ready .any ops (markA ops.size m) ∧ d < a.tmps.size ∧ a.tmps.getD d Go.undef = .pointer (some ⟨p.2, 0, none⟩) ∧ (∀ w, (zeroValue t).run P w = .ok z w) ∧ w.heap[p.2]? = some (.cells z.cells t (0, 0))
  own : ∀ p ∈ D, ¬ C.O p.2 ∧ ¬ C.S p.2 ∧ p.2 < w.heap.size ∧ w0.heap.size ≤ p.2 ∧ ∀ b c, C.bl b ≠ some (p.2, c)
  nd1 : (D.map (·.1)).Nodup
  nd2 : (D.map (·.2)).Nodup
theorem Dn.nil {ops : Array Oper} {w0 : World} {m : Nat} : Dn P ops w0 C m a w [] := ⟨fun _ h => (nomatch h), fun _ h => (nomatch h), List.Pairwise.nil, List.Pairwise.nil⟩
theorem ready_or {ops : Array Oper} {m i p : Nat} (hp : p ∈ Region.ready .any ops (markA ops.size m)) (hne : p ≠ i) : p ∈ Region.ready .any ops (markA ops.size (m ||| (1 <<< i))) := by
  obtain ⟨h1, h2, o, ho, h3⟩ := rdy_iff.1 hp
  refine rdy_iff.2 ⟨h1, by rw [test_or, h2]; simp [Ne.symm hne], o, ho, fun e he hb => ?_⟩
  obtain ⟨k1, k2⟩ := h3 e he hb
  exact ⟨k1, by rw [test_or, k2]; rfl⟩
theorem Dn.step {ops : Array Oper} {w0 : World} {m : Nat} {D : List (Nat × Nat)} (hD : Dn P ops w0 C m a w D) {C' : Ctx} {w' : World} (k : Kp C w C' w') {i : Nat} (hi : ∀ p ∈ D, p.1 ≠ i) {dst : Option Tmp} {v : Value} (hd : ∀ p ∈ D, ∀ o t d, ops[p.1]? = some o → allocOf o = some (t, d) → dst ≠ some d) :
    Dn P ops w0 C' (m ||| (1 <<< i)) (a.put dst v) w' D := by
  refine ⟨fun p hp => ?_, fun p hp => ?_, hD.nd1, hD.nd2⟩
  · obtain ⟨o, t, d, z, h1, h2, h3, h4, h5, h6, h7⟩ := hD.op p hp
    obtain ⟨q1, q2, q3, q4, q5⟩ := hD.own p hp
    exact ⟨o, t, d, z, h1, h2, ready_or h3 (hi p hp), by rw [put_size]; exact h4, by rw [put_ne (hd p hp o t d h1 h2)]; exact h5, h6, by rw [k.keep p.2 q3 q1 q2]; exact h7⟩
  · obtain ⟨q1, q2, q3, q4, q5⟩ := hD.own p hp
    refine ⟨fun h => ?_, fun h => ?_, Nat.lt_of_lt_of_le q3 k.size, q4, fun b c h => ?_⟩
    · rcases k.new _ h with h | h
      · exact q1 h
      · omega
    · rcases k.newS _ h with h | h
      · exact q2 h
      · omega
    · rcases k.newbl _ _ _ h with ⟨b0, c0, h⟩ | h
      · exact q5 b0 c0 h
      · omega
theorem closed_bits {ops : Array Oper} {m : Nat} {D : List (Nat × Nat)} (hcl : Closed .any ops (markA ops.size m)) (hr : ∀ p ∈ D, p.1 ∈ Region.ready .any ops (markA ops.size m)) : Closed .any ops (markA ops.size (bitsE D m)) := by
  intro j oj hj hl e he hb
  have up : ∀ k, (markA ops.size m).getD k false = true → (markA ops.size (bitsE D m)).getD k false = true := fun k hk => by
    rw [markA_getD] at hk ⊢
    split at hk
    · rename_i hlt
      rw [if_pos hlt, bitsE_test]; exact .inl hk
    · cases hk
  have hlt := (Array.getElem?_eq_some_iff.1 hj).1
  rw [markA_getD, if_pos hlt, bitsE_test] at hl
  rcases hl with hl | ⟨p, hp, rfl⟩
  · exact up _ (hcl j oj hj (by rw [markA_getD, if_pos hlt]; exact hl) e he hb)
  · obtain ⟨_, _, o, ho, h3⟩ := rdy_iff.1 (hr p hp)
    rw [hj] at ho; cases ho
    obtain ⟨k1, k2⟩ := h3 e he hb
    exact up _ (by rw [markA_getD, if_pos k1]; exact k2)
theorem Dn.rdy {ops : Array Oper} {w0 : World} {m : Nat} {D : List (Nat × Nat)} (hD : Dn P ops w0 C m a w D) : ∀ p ∈ D, p.1 ∈ Region.ready .any ops (markA ops.size m) := fun p hp => by
  obtain ⟨_, _, _, _, _, _, h, _⟩ := hD.op p hp
  exact h
theorem Dn.alloc {ops : Array Oper} {w0 : World} {m : Nat} {D : List (Nat × Nat)} (hD : Dn P ops w0 C m a w D) {p : Nat × Nat} (hp : p ∈ D) : isAlloc ops p.1 = true := by
  obtain ⟨o, t, d, z, h1, h2, _⟩ := hD.op p hp
  unfold isAlloc; rw [h1]; simp [h2]
theorem mark_bits {ops : Array Oper} {x y : Nat} (h : ∀ k, x.testBit k = y.testBit k) : markA ops.size x = markA ops.size y := markA_congr fun k _ => h k
theorem cnt_same {n x y : Nat} (h : ∀ k, x.testBit k = y.testBit k) : cnt n x = cnt n y :=
  Nat.le_antisymm (cnt_mono fun k _ hk => by rw [h k]; exact hk) (cnt_mono fun k _ hk => by rw [← h k]; exact hk)
section
variable {ops : Array Oper} {sp : Option (Nat × Nat)} {Q : Exit → Act → World → Prop} {Φ : Env → St → Prop} {C0 : Ctx} {w0 : World}
/-- what the region's remainder comes to, from there on -/
def Goes (P : Program) (X : Ext) (ft : Ft) (tb : Tb) (cf : Cf) (ops : Array Oper) (sp : Option (Nat × Nat)) (Q : Exit → Act → World → Prop) (Φ : Env → St → Prop) (C0 : Ctx) (w0 : World) (n : Nat) : Prop :=
  ∀ {f m : Nat} {held : List Hd} {L : List (Nat × (World → Prop))} {D : List (Nat × Nat)} {C : Ctx} {w : World} {st : St} {a : Act}, C.Is X ft → Kp C0 w0 C w → HRel C st.hp w → ARel C st a → HeldRel P C st.hp held L → Closed .any ops (markA ops.size m) →
    SL .any ops L (markA ops.size (bitsE D m)) w → Dn P ops w0 C m a w D → cnt ops.size (bitsE D m) ≤ f → (xanyG P tb cf ops sp n m held st).holds Φ C.V → wpAnyG P .any ops Q L f (markA ops.size (bitsE D m)) a w
/-- a new variable that was made already comes up -/
theorem goes_adopt {n : Nat} (ih : Goes P X ft tb cf ops sp Q Φ C0 w0 n) {f m i g : Nat} {held : List Hd} {L : List (Nat × (World → Prop))} {D : List (Nat × Nat)} (hC : C.Is X ft) (hk : Kp C0 w0 C w) (h : HRel C st.hp w) (ha : ARel C st a) (hH : HeldRel P C st.hp held L) (hcl : Closed .any ops (markA ops.size m))
    (hS : SL .any ops L (markA ops.size (bitsE ((i, g) :: D) m)) w) (hD : Dn P ops w0 C m a w ((i, g) :: D)) (hf : cnt ops.size (bitsE ((i, g) :: D) m) ≤ f)
    (hx : (xone P tb cf ops sp i held st fun held st => natK (m ||| (1 <<< i)) fun m => xanyG P tb cf ops sp n m held st).holds Φ C.V) : wpAnyG P .any ops Q L f (markA ops.size (bitsE ((i, g) :: D) m)) a w := by
  obtain ⟨o, t, d, z, ho, hal, hr, hd, hv, hz, hh⟩ := hD.op (i, g) List.mem_cons_self
  obtain ⟨q1, q2, q3, q4, q5⟩ := hD.own (i, g) List.mem_cons_self
  simp only at ho hr hv hh q1 q2 q3 q4 q5
  unfold xone at hx
  rw [ho] at hx
  simp only at hx
  split at hx
  · rename_i st1 hst1
    obtain ⟨h1, hp1, e1, e2⟩ := into_ok h hst1
    rw [T.holds_bind] at hx
    obtain ⟨hcan, pz, hpz, hok, hx⟩ := xstep_alloc hal hx
    rw [T.holds_bind] at hx
    obtain ⟨z', hz', hzr⟩ := xzero_ok hpz (C.add st1.hp.nx g 0)
    have : z' = z := by have h1 := hz' w; rw [hz w] at h1; cases h1; rfl
    subst this
    obtain ⟨vs, hvs, hcs⟩ := hzr.cells
    have hn := (h1.free st1.hp.nx (Hp.can_free hcan)).1
    have hA : HRel (C.add st1.hp.nx g 0) { st1.hp with H := hput st1.hp.H st1.hp.nx (.cells pz.cells t 0 false), nx := st1.hp.nx + 1 } w :=
      h1.adopt hcan hh ⟨vs, [], hvs, by rw [hcs]; simp, fun _ => rfl, (fun e => by cases e), hok⟩ q2 q5
    have hle := Ctx.le_add (g := g) (c := 0) hn
    have hAR : ARel (C.add st1.hp.nx g 0) (st1.put (some d) (.sc (.ptr st1.hp.nx 0)) { st1.hp with H := hput st1.hp.H st1.hp.nx (.cells pz.cells t 0 false), nx := st1.hp.nx + 1 }) a := by
      have ha1 : ARel C st1 a := by rw [e1]; exact ha.hp _
      refine ⟨by rw [St.put_sz]; exact ha1.sz, by rw [St.put_sz]; exact ha1.most, fun k => ?_, ha1.defers⟩
      rw [put_get ha1.most]
      by_cases e : k = d ∧ d < st1.sz
      · rw [if_pos e, e.1, hv]
        exact ⟨g, 0, by simp [Ctx.add], rfl⟩
      · rw [if_neg e]; exact SV.rel.le hle (ha1.rel k)
    obtain ⟨hp2, hB, hx⟩ := outof_ok (C := C.add st1.hp.nx g 0) (by rw [St.put_hp]; exact hA) hx
    split at hx
    · rename_i held' hh'
      rw [natK_eq] at hx
      have hi := (Array.getElem?_eq_some_iff.1 ho).1
      have hbit : ∀ k, (bitsE ((i, g) :: D) m).testBit k = (bitsE D (m ||| (1 <<< i))).testBit k := fun k => bitsE_or.symm
      obtain ⟨L', l1, l2, l3⟩ := held_next (lst := markA ops.size (bitsE ((i, g) :: D) m)) ho (by rw [markA_getD, if_pos hi, bitsE_test]; exact .inr ⟨_, List.mem_cons_self, rfl⟩) hH hle hB hh'
      refine wpAnyG_weak (L' := L') (l0 := markA ops.size (bitsE ((i, g) :: D) m)) l3 f _ _ _ (fun k hk => hk) ?_
      rw [mark_bits hbit] at l2 ⊢
      have hnd1 := List.nodup_cons.1 hD.nd1
      have hnd2 := List.nodup_cons.1 hD.nd2
      refine ih (hC.le hle) (hk.adopt hn q4) hB ((hAR.hp _)) l1 (by rw [← markA_set hi]; exact hcl.set hr) l2 ⟨fun p hp => ?_, fun p hp => ?_, hnd1.2, hnd2.2⟩ (by rw [← cnt_same hbit]; exact hf) hx
      · obtain ⟨o', t', d', z', r1, r2, r3, r4, r5, r6, r7⟩ := hD.op p (List.mem_cons_of_mem _ hp)
        exact ⟨o', t', d', z', r1, r2, ready_or r3 fun e => hnd1.1 (List.mem_map.2 ⟨p, hp, e⟩), r4, r5, r6, r7⟩
      · obtain ⟨r1, r2, r3, r4, r5⟩ := hD.own p (List.mem_cons_of_mem _ hp)
        have hne : p.2 ≠ g := fun e => hnd2.1 (List.mem_map.2 ⟨p, hp, e⟩)
        refine ⟨fun hO => hO.elim (fun e => hne e) r1, r2, r3, r4, fun b c hb => ?_⟩
        by_cases e : b = st1.hp.nx
        · simp [Ctx.add, e] at hb; exact hne hb.1.symm
        · simp [Ctx.add, e] at hb; exact r5 b c hb
    · exact hx.elim
  · exact hx.elim
/-- an operation that is carried out -/
theorem goes_real (htb : TbOk P tb) (hcf : CfOk P X ft cf) {n : Nat} (ih : Goes P X ft tb cf ops sp Q Φ C0 w0 n) {f m j : Nat} {held : List Hd} {L : List (Nat × (World → Prop))} {D : List (Nat × Nat)} (hC : C.Is X ft) (hk : Kp C0 w0 C w) (h : HRel C st.hp w) (ha : ARel C st a) (hH : HeldRel P C st.hp held L) (hcl : Closed .any ops (markA ops.size m))
    (hD : Dn P ops w0 C m a w D) (hf : cnt ops.size (bitsE D m) ≤ f + 1) (hj : j ∈ Region.ready .any ops (markA ops.size m)) (hjD : ∀ p ∈ D, p.1 ≠ j) (hdst : ∀ p ∈ D, dstNe ops j p.1 = true)
    (hx : (xone P tb cf ops sp j held st fun held st => natK (m ||| (1 <<< j)) fun m => xanyG P tb cf ops sp n m held st).holds Φ C.V) :
    wpOp P ops Q j (fun a' w' => SL .any ops L ((markA ops.size (bitsE D m)).setIfInBounds j true) w' ∧ wpAnyG P .any ops Q L f ((markA ops.size (bitsE D m)).setIfInBounds j true) a' w') a w := by
  obtain ⟨hlt, hun, o, ho, _⟩ := rdy_iff.1 hj
  unfold xone at hx
  rw [ho] at hx
  simp only at hx
  unfold wpOp
  rw [ho]
  simp only
  have hunD : (bitsE D m).testBit j = false := by
    cases hb : (bitsE D m).testBit j with
    | false => rfl
    | true =>
      rcases bitsE_test.1 hb with hb | ⟨p, hp, e⟩
      · rw [hun] at hb; cases hb
      · exact absurd e (hjD p hp)
  rw [markA_set hlt, mark_bits (fun k => (bitsE_or (D := D) (m := m) (i := j) (k := k)).symm)]
  split at hx
  · rename_i st1 hst1
    obtain ⟨h1, hp1, e1, e2⟩ := into_ok h hst1
    rw [T.holds_bind] at hx
    have ha1 : ARel C st1 a := by rw [e1]; exact ha.hp _
    have hs := xstep_ok2 (st := st1) (Q := Q) (K := fun a' w' => SL .any ops L (markA ops.size (bitsE D (m ||| (1 <<< j)))) w' ∧ wpAnyG P .any ops Q L f (markA ops.size (bitsE D (m ||| (1 <<< j)))) a' w') htb hcf hC h1 ha1 hx fun C' sv hp' v w' k1 k2 k3 k4 => by
      rw [T.holds_bind] at k4
      obtain ⟨hp2, hB, k4⟩ := outof_ok (by rw [St.put_hp]; exact k2) k4
      split at k4
      · rename_i held' hh'
        rw [natK_eq] at k4
        obtain ⟨L', l1, l2, l3⟩ := held_next (lst := markA ops.size (bitsE D (m ||| (1 <<< j)))) ho (by rw [markA_getD, if_pos hlt, bitsE_test, test_or]; simp) hH k1.le hB hh'
        refine ⟨l3 _ _ (fun k hk => hk) l2, wpAnyG_weak (L' := L') (l0 := markA ops.size (bitsE D (m ||| (1 <<< j)))) l3 f _ _ _ (fun k hk => hk) ?_⟩
        refine ih (hC.le k1.le) (hk.trans k1) hB (k3.hp _) l1 (by rw [← markA_set hlt]; exact hcl.set hj) l2 (hD.step k1 hjD fun p hp o' t d r1 r2 e => ?_) ?_ k4
        · exact dstNe_ok (hdst p hp) ho r1 e (allocOf_ok r2).2.2
        · have : cnt ops.size (bitsE D (m ||| (1 <<< j))) < cnt ops.size (bitsE D m) := cnt_lt (i := j) (fun k _ hk => by
            rw [bitsE_or, test_or, hk]; rfl) hlt hunD (by rw [bitsE_or, test_or]; simp)
          omega
      · exact k4.elim
    split
    · rename_i hw; rw [if_pos hw] at hs; exact .inl hs
    · rename_i hw; rw [if_neg hw] at hs; exact hs
  · exact hx.elim
/-- it is taken; new variables may be made early -/
theorem goes_pick (htb : TbOk P tb) (hcf : CfOk P X ft cf) {n : Nat} (ih : Goes P X ft tb cf ops sp Q Φ C0 w0 n) {m j : Nat} {rs : List Nat} {held : List Hd} {L : List (Nat × (World → Prop))} (hr : Region.ready .any ops (markA ops.size m) = rs) (hj : j ∈ rs) (hpk : ∀ p ∈ rs, p ≠ j → isAlloc ops p = true ∧ behind .any ops p j = true ∧ dstNe ops j p = true)
    (hap : ∀ i ∈ rs, ∀ k ∈ rs, i ≠ j → k ≠ j → i ≠ k → dstNe ops i k = true) (hcl : Closed .any ops (markA ops.size m)) (hpo : pendOk P ops st.sz (pendL ops rs j) = true)
    (hany : ∀ p ∈ rs, p ≠ j → ∀ o t d, ops[p]? = some o → allocOf o = some (t, d) → st.get d = .any) : ∀ (f : Nat) {D : List (Nat × Nat)} {C : Ctx} {w : World} {a : Act}, C.Is X ft → Kp C0 w0 C w → HRel C st.hp w → ARel C st a → HeldRel P C st.hp held L →
    SL .any ops L (markA ops.size (bitsE D m)) w → Dn P ops w0 C m a w D → (∀ p ∈ D, p.1 ≠ j) → cnt ops.size (bitsE D m) ≤ f →
    (xone P tb cf ops sp j held st fun held st => natK (m ||| (1 <<< j)) fun m => xanyG P tb cf ops sp n m held st).holds Φ C.V → wpAnyG P .any ops Q L f (markA ops.size (bitsE D m)) a w := by
  intro f
  have hjr : j ∈ Region.ready .any ops (markA ops.size m) := by rw [hr]; exact hj
  obtain ⟨hlt, hun, oj, hoj, hej⟩ := rdy_iff.1 hjr
  have unl : ∀ {D : List (Nat × Nat)}, (∀ p ∈ D, p.1 ≠ j) → (bitsE D m).testBit j = false := fun {D} hjD => by
    cases hb : (bitsE D m).testBit j with
    | false => rfl
    | true =>
      rcases bitsE_test.1 hb with hb | ⟨p, hp, e⟩
      · rw [hun] at hb; cases hb
      · exact absurd e (hjD p hp)
  induction f with
  | zero =>
    intro D C w a hC hk h ha hH hS hD hjD hf hx
    have := cnt_pos hlt (unl hjD)
    omega
  | succ f ihf =>
    intro D C w a hC hk h ha hH hS hD hjD hf hx
    have hclR := closed_bits hcl hD.rdy
    have hjR : j ∈ Region.ready .any ops (markA ops.size (bitsE D m)) := rdy_iff.2 ⟨hlt, unl hjD, oj, hoj, fun e he hb => ⟨(hej e he hb).1, bitsE_test.2 (.inl (hej e he hb).2)⟩⟩
    refine ⟨fun h0 => by (rw [h0] at hjR; cases hjR), fun i hi => ?_⟩
    by_cases hij : i = j
    · subst hij
      exact goes_real htb hcf ih hC hk h ha hH hcl hD hf hjr hjD (fun p hp => (hpk p.1 (by rw [← hr]; exact hD.rdy p hp) (hjD p hp)).2.2) hx
    · obtain ⟨hilt, hiun, oi, hoi, hie⟩ := rdy_iff.1 hi
      have hirs : i ∈ rs := by
        rw [← hr]
        refine rdy_iff.2 ⟨hilt, ?_, oi, hoi, fun e he hb => ?_⟩
        · cases hb : m.testBit i with
          | false => rfl
          | true => rw [bitsE_test.2 (.inl hb)] at hiun; cases hiun
        · obtain ⟨k1, k2⟩ := hie e he hb
          refine ⟨k1, ?_⟩
          rcases bitsE_test.1 k2 with k2 | ⟨p, hp, hpe⟩
          · exact k2
          · exfalso
            have hprs : p.1 ∈ rs := by rw [← hr]; exact hD.rdy p hp
            have hre := behind_ok (hpk p.1 hprs (hjD p hp)).2.1 hoi he hb hpe.symm
            -- whatever i waits for has come up; j has not
            have hno : (markA ops.size (bitsE D m)).getD j false = true → False := fun hb => by
              rw [markA_getD, if_pos hlt, unl hjD] at hb; cases hb
            have hl : ∀ e ∈ oi.after, Region.binds .any e = true → (markA ops.size (bitsE D m)).getD e.on false = true := fun e he hb => by
              obtain ⟨k1, k2⟩ := hie e he hb
              rw [markA_getD, if_pos k1]; exact k2
            cases hre with
            | one ho' he' hb' => rw [hoi] at ho'; cases ho'; exact hno (hl _ he' hb')
            | more ho' he' hb' hr' => rw [hoi] at ho'; cases ho'; exact hno (hr'.listed hclR (hl _ he' hb'))
      obtain ⟨hal, hbe, hdj⟩ := hpk i hirs hij
      obtain ⟨t, d, hto⟩ : ∃ t d, allocOf oi = some (t, d) := by
        unfold isAlloc at hal
        rw [hoi] at hal
        simp only at hal
        obtain ⟨⟨t, d⟩, h⟩ := Option.isSome_iff_exists.1 hal
        exact ⟨t, d, h⟩
      obtain ⟨t1, t2, t3⟩ := allocOf_ok hto
      have hpo' : (xzero P t).isSome = true ∧ d < st.sz := by
        have := List.all_eq_true.1 hpo i (mem_pendL.2 ⟨hirs, hij⟩)
        rw [hoi] at this
        simp only [hto, Bool.and_eq_true] at this
        exact ⟨this.1, blt_true.1 this.2⟩
      obtain ⟨pz, hpz⟩ := Option.isSome_iff_exists.1 hpo'.1
      obtain ⟨z, hz, _⟩ := xzero_ok hpz C
      have hda : d < a.tmps.size := by rw [← ha.sz]; exact hpo'.2
      have hnew : ∀ p ∈ D, p.1 ≠ i := fun p hp e => by
        rw [bitsE_test.2 (.inr ⟨p, hp, e⟩)] at hiun; cases hiun
      have hdp : ∀ p ∈ D, ∀ o t d', ops[p.1]? = some o → allocOf o = some (t, d') → oi.dst ≠ some d' := fun p hp o t d' r1 r2 e =>
        dstNe_ok (hap i hirs p.1 (by rw [← hr]; exact hD.rdy p hp) hij (hjD p hp) (Ne.symm (hnew p hp))) hoi r1 e (allocOf_ok r2).2.2
      unfold wpOp
      rw [hoi]
      simp only
      rw [if_pos (by unfold Region.wanted; rw [t2])]
      refine .inl (wp_alloc hto hz ?_)
      rw [markA_set hilt]
      have hsame : markA ops.size (bitsE D m ||| (1 <<< i)) = markA ops.size (bitsE ((i, w.heap.size) :: D) m) := rfl
      rw [hsame]
      have hT := h.tight (o := .cells z.cells t (0, 0))
      have hHT : HeldRel P (C.tight w) st.hp held L := fun q hq => by
        obtain ⟨h0, r1, r2, r3, r4⟩ := hH q hq
        exact ⟨h0, r1, r2, r3, fun C' hp' w' l1 l2 l3 => r4 C' hp' w' ((C.le_tight w).trans l1) l2 l3⟩
      have hST : SL .any ops L (markA ops.size (bitsE ((i, w.heap.size) :: D) m)) (w.alloc (.cells z.cells t (0, 0))) := fun q hq => by
        obtain ⟨h0, r1, r2, r3, r4⟩ := hHT q hq
        exact .inr (r4 _ _ _ (.refl _) hT r3)
      refine ⟨hST, ihf (hC.le (C.le_tight w)) (hk.tight _) hT ?_ hHT hST ?_ ?_ ?_ hx⟩
      · have hl := ha.le (C.le_tight w)
        refine ⟨by rw [put_size]; exact hl.sz, hl.most, fun k => ?_, ?_⟩
        · rw [t3]
          by_cases e : k = d
          · subst e
            rw [hany i hirs hij oi t k hoi hto]; trivial
          · rw [put_ne (fun e' => e (by cases e'; rfl))]; exact hl.rel k
        · rw [t3]; exact hl.defers
      · refine ⟨fun p hp => ?_, fun p hp => ?_, ?_, ?_⟩
        · rcases List.mem_cons.1 hp with rfl | hp
          · exact ⟨oi, t, d, z, hoi, hto, by rw [hr]; exact hirs, by rw [put_size]; exact hda, by rw [t3, put_eq hda], hz, heap_alloc_new _ _⟩
          · obtain ⟨o', t', d', z', r1, r2, r3, r4, r5, r6, r7⟩ := hD.op p hp
            exact ⟨o', t', d', z', r1, r2, r3, by rw [put_size]; exact r4, by rw [put_ne (hdp p hp o' t' d' r1 r2)]; exact r5, r6, by rw [heap_alloc_old w _ (hD.own p hp).2.2.1]; exact r7⟩
        · rcases List.mem_cons.1 hp with rfl | hp
          · exact ⟨fun h => Nat.lt_irrefl _ h.2, fun h' => Nat.lt_irrefl _ (h.ext.lt _ h'), by simp, hk.size, fun b c hb => Nat.lt_irrefl _ (h.blt b _ c hb)⟩
          · obtain ⟨r1, r2, r3, r4, r5⟩ := hD.own p hp
            exact ⟨fun h => r1 h.1, r2, by simp; omega, r4, r5⟩
        · refine List.nodup_cons.2 ⟨fun hm => ?_, hD.nd1⟩
          obtain ⟨p, hp, e⟩ := List.mem_map.1 hm
          exact hnew p hp e
        · refine List.nodup_cons.2 ⟨fun hm => ?_, hD.nd2⟩
          obtain ⟨p, hp, e⟩ := List.mem_map.1 hm
          have := (hD.own p hp).2.2.1
          simp only at e
          omega
      · intro p hp
        rcases List.mem_cons.1 hp with rfl | hp
        · exact hij
        · exact hjD p hp
      · have : cnt ops.size (bitsE ((i, w.heap.size) :: D) m) < cnt ops.size (bitsE D m) := cnt_lt (i := i) (fun k _ hk => by
          show (bitsE D m ||| (1 <<< i)).testBit k = true
          rw [test_or, hk]; rfl) hilt hiun (by show (bitsE D m ||| (1 <<< i)).testBit i = true; rw [test_or]; simp)
        omega
theorem xanyG_ok (htb : TbOk P tb) (hcf : CfOk P X ft cf) (hns : Region.noSelect ops = true) (hQ : ∀ c a w, ¬ Q (.panic c) a w)
    (hK : ∀ C' st' a' w', Kp C0 w0 C' w' → HRel C' st'.hp w' → ARel C' st' a' → Φ C'.V st' → Q .normal a' w') : ∀ (n : Nat), Goes P X ft tb cf ops sp Q Φ C0 w0 n := by
  intro n
  have done : ∀ {f m : Nat} {L : List (Nat × (World → Prop))} {D : List (Nat × Nat)} {C : Ctx} {w : World} {st : St} {a : Act}, xnext .any ops m = .done → Kp C0 w0 C w → HRel C st.hp w → ARel C st a → Dn P ops w0 C m a w D → Φ C.V st → wpAnyG P .any ops Q L f (markA ops.size (bitsE D m)) a w := fun {f m L D C w st a} hr hk h ha hD hx => by
    have hr := xnext_done hr
    cases D with
    | nil => exact wpAnyG_end hr (hK C st a w hk h ha hx) f
    | cons p D => have := hD.rdy p List.mem_cons_self; rw [hr] at this; cases this
  induction n with
  | zero =>
    intro f m held L D C w st a hC hk h ha hH hcl hS hD hf hx
    unfold xanyG at hx
    split at hx
    · rename_i hr; exact done hr hk h ha hD hx
    · exact hx.elim
  | succ n ih =>
    intro f m held L D C w st a hC hk h ha hH hcl hS hD hf hx
    unfold xanyG at hx
    split at hx
    · rename_i hr; exact done hr hk h ha hD hx
    · rename_i i hr
      obtain ⟨k1, k2, k3⟩ := xnext_first hr
      simp only [natK_eq] at hx
      split at hx
      · exact hx.elim
      · rename_i o ho
        have hi : i < ops.size := (Array.getElem?_eq_some_iff.1 ho).1
        have hst : stillKind o.op = true := by unfold isStill at k2; rw [ho] at k2; exact k2
        obtain ⟨_, hun, oi, hoi, hie⟩ := rdy_iff.1 k1
        rw [ho] at hoi; cases hoi
        have hneD : ∀ p ∈ D, p.1 ≠ i := fun p hp e => by
          obtain ⟨o', t', d', _, r1, r2, _⟩ := hD.op p hp
          rw [e, ho] at r1; cases r1
          rw [(allocOf_ok r2).1] at hst; cases hst
        have hunD : (bitsE D m).testBit i = false := by
          cases hb : (bitsE D m).testBit i with
          | false => rfl
          | true =>
            rcases bitsE_test.1 hb with hb | ⟨p, hp, e⟩
            · rw [hun] at hb; cases hb
            · exact absurd e (hneD p hp)
        have hiR : i ∈ Region.ready .any ops (markA ops.size (bitsE D m)) := rdy_iff.2 ⟨hi, hunD, o, ho, fun e he hb => ⟨(hie e he hb).1, bitsE_test.2 (.inl (hie e he hb).2)⟩⟩
        have hclR := closed_bits hcl hD.rdy
        have hap : ∀ (j : Nat) (oj : Oper), ops[j]? = some oj → j ≠ i → (markA ops.size (bitsE D m)).getD j true = false → (∀ e ∈ oj.after, Region.binds .any e = true → e.on ≠ i) → o.apart ops oj = true := fun j oj hj hne hl hno => by
          refine k3 _ ho j oj hj hne ?_ hno
          have hjl := (Array.getElem?_eq_some_iff.1 hj).1
          rw [markA_getD, if_pos hjl] at hl ⊢
          cases hb : m.testBit j with
          | false => rfl
          | true => rw [bitsE_test.2 (.inl hb)] at hl; cases hl
        obtain ⟨f, rfl⟩ : ∃ f', f = f' + 1 := ⟨f - 1, by have := cnt_pos hi hunD; omega⟩
        have hcnt : cnt ops.size (bitsE D (m ||| (1 <<< i))) ≤ f := by
          have : cnt ops.size (bitsE D (m ||| (1 <<< i))) < cnt ops.size (bitsE D m) := cnt_lt (i := i) (fun k _ hk => by
            rw [bitsE_or, test_or, hk]; rfl) hi hunD (by rw [bitsE_or, test_or]; simp)
          omega
        have hmark : (markA ops.size (bitsE D m)).setIfInBounds i true = markA ops.size (bitsE D (m ||| (1 <<< i))) := by
          rw [markA_set hi]; exact mark_bits fun k => bitsE_or.symm
        have hDn : ∀ v, Dn P ops w0 C (m ||| (1 <<< i)) (a.put o.dst v) w D := fun v => hD.step (.refl C w) hneD fun p hp o' t d r1 r2 e => by
          obtain ⟨_, hpun, op, hop, hpe⟩ := rdy_iff.1 (hD.rdy p hp)
          rw [r1] at hop; cases hop
          have hfree := k3 _ ho p.1 o' r1 (hneD p hp) (by rw [markA_getD, if_pos (Array.getElem?_eq_some_iff.1 r1).1]; exact hpun) fun e' he' hb' heq => by
            have := (hpe e' he' hb').2
            rw [heq, hun] at this; cases this
          exact (Oper.apart_spec hfree).2.1 d e (allocOf_ok r2).2.2
        split at hx
        · exact hx.elim
        · rename_i e he
          obtain ⟨s, hw⟩ := xwant_ok ha he
          obtain ⟨hpf, hf, hfH, _, _, _, _, _, hh⟩ := xif_holds h s hx
          simp only [St.putK_eq, svK_eq] at hh
          have hcl' : Closed .any ops (markA ops.size (m ||| (1 <<< i))) := by rw [← markA_set hi]; exact hcl.set k1
          have hSn : SL .any ops L (markA ops.size (bitsE D (m ||| (1 <<< i)))) w := by rw [← hmark]; exact hS.set
          -- what yields whatever the world
          have pure : ∀ {sv : SV} {v : Value}, sv.rel C v → Yields P ops o v a → (xanyG P tb cf ops sp n (m ||| (1 <<< i)) held (st.put o.dst sv hpf)).holds Φ C.V → wpAnyG P .any ops Q L (f + 1) (markA ops.size (bitsE D m)) a w := fun {sv v} hv hy hr => by
            have h1 := ih hC hk (by rw [St.put_hp]; exact hf) (ha.put hv o.dst hpf) (by rw [St.put_hp]; exact hH.of hfH) hcl' hSn (hDn v) hcnt hr
            have h2 : wpAnyG P .any ops Q ((i, fun _ => True) :: L) f (markA ops.size (bitsE D (m ||| (1 <<< i)))) (a.put o.dst v) w :=
              wpAnyG_weak (l0 := markA ops.size (bitsE D (m ||| (1 <<< i)))) (fun listed w _ hSL q hq => by
                rcases List.mem_cons.1 hq with rfl | hq
                · exact .inr trivial
                · exact hSL q hq) f _ _ _ (fun k hk => hk) h1
            rw [← hmark] at h2
            have h3 := wpAnyG_first (Si := fun _ => True) ho hst List.mem_cons_self (Region.noSelect_spec hns) (fun c a w hq => absurd hq (hQ _ _ _)) f _ a w hclR hap hiR (Yields.yieldsIf hy) (fun q hq => by
                rcases List.mem_cons.1 hq with rfl | hq
                · exact .inr trivial
                · exact hS q hq) h2
            exact wpAnyG_weak (l0 := markA ops.size (bitsE D m)) (fun listed w _ hSL q hq => hSL q (List.mem_cons_of_mem _ hq)) _ _ _ _ (fun k hk => hk) h3
          cases hb : e.tr C.V with
          | false => exact pure (SV.rel_undef C) (.inr ⟨by rw [hw, hb], rfl⟩) (hh.2 hb)
          | true =>
            have h1 := hh.1 hb
            split at h1
            · rename_i sv hs
              obtain ⟨v, q1, q2⟩ := pop_ok (P := P) hf.ks (ha.ev hf.ks) o sv hs
              exact pure q1 (.inl ⟨by rw [hw, hb], q2⟩) h1
            · have hold : ∀ {K : HK} {sv : SV} {v : Value}, sv.rel C v → (execOp a.eval o).run P w = .ok (.value v) w → plook P st.hp.H K = some sv → (∀ C' hp' w', C.le C' → HRel C' hp' w' → plook P hp'.H K = some sv → (execOp a.eval o).run P w' = .ok (.value v) w') →
                  (xanyG P tb cf ops sp n (m ||| (1 <<< i)) (⟨i, K, sv⟩ :: held) (st.put o.dst sv hpf)).holds Φ C.V → wpAnyG P .any ops Q L (f + 1) (markA ops.size (bitsE D m)) a w := fun {K sv v} q1 q2 hs hlater h1 => by
                have hy : YieldsIf P ops (fun w' => (execOp a.eval o).run P w' = .ok (.value v) w') o v a := .inl ⟨by rw [hw, hb], fun w' hw' => hw'⟩
                have hH' : HeldRel P C st.hp (⟨i, K, sv⟩ :: held) ((i, fun w' => (execOp a.eval o).run P w' = .ok (.value v) w') :: L) := fun q hq => by
                  rcases List.mem_cons.1 hq with rfl | hq
                  · exact ⟨_, List.mem_cons_self, rfl, hs, hlater⟩
                  · obtain ⟨h0, l1, l2⟩ := hH q hq
                    exact ⟨h0, List.mem_cons_of_mem _ l1, l2⟩
                have hS' : ∀ lst, SL .any ops L lst w → SL .any ops ((i, fun w' => (execOp a.eval o).run P w' = .ok (.value v) w') :: L) lst w := fun lst hS q hq => by
                  rcases List.mem_cons.1 hq with rfl | hq
                  · exact .inr q2
                  · exact hS q hq
                have h2 := ih hC hk (by rw [St.put_hp]; exact hf) (ha.put q1 o.dst hpf) (by rw [St.put_hp]; exact HeldRel.of hfH hH') hcl' (hS' _ hSn) (hDn v) hcnt h1
                rw [← hmark] at h2
                have h3 := wpAnyG_first ho hst List.mem_cons_self (Region.noSelect_spec hns) (fun c a w hq => absurd hq (hQ _ _ _)) f _ a w hclR hap hiR hy (hS' _ hS) h2
                exact wpAnyG_weak (l0 := markA ops.size (bitsE D m)) (fun listed w _ hSL q hq => hSL q (List.mem_cons_of_mem _ hq)) _ _ _ _ (fun k hk => hk) h3
              split at h1
              · rename_i t x hop
                split at h1
                · rename_i ad had
                  split at h1
                  · rename_i sv hs
                    have hrel : ad.rel C (a.eval x) := ha.ev hf.ks _ _ had
                    obtain ⟨v, q1, q2⟩ := pload_ok hop h hrel hs
                    refine hold (K := .ld t ad) q1 q2 hs (fun C' hp' w' l1 l2 l3 => ?_) h1
                    obtain ⟨v', r1, r2⟩ := pload_ok (P := P) (ρ := a.eval) hop l2 (SV.rel.le l1 hrel) l3
                    rw [SV.rel.fn (pload_any hs) (SV.rel.le l1 q1) r1]
                    exact r2
                  · exact h1.elim
                · exact h1.elim
              · rename_i bo t x y ty hop
                split at h1
                · rename_i u u' hu hu'
                  split at h1
                  · rename_i sv hs
                    have r1 : u.rel C (a.eval x) := ha.ev hf.ks _ _ hu
                    have r2 : u'.rel C (a.eval y) := ha.ev hf.ks _ _ hu'
                    obtain ⟨v, q1, q2⟩ := pcmp_ok (ty := none) ⟨_, hop⟩ h r1 r2 hs
                    refine hold (K := .cm bo t u u') q1 q2 hs (fun C' hp' w' l1 l2 l3 => ?_) h1
                    obtain ⟨v', r3, r4⟩ := pcmp_ok (P := P) (ty := none) (ρ := a.eval) ⟨_, hop⟩ l2 (SV.rel.le l1 r1) (SV.rel.le l1 r2) l3
                    rw [SV.rel.fn (pcmp_any hs) (SV.rel.le l1 q1) r3]
                    exact r4
                  · exact h1.elim
                · exact h1.elim
              · exact h1.elim
    · rename_i rs hr
      obtain ⟨k1, k2⟩ := xnext_all hr
      split at hx
      · rename_i j hpk
        rw [natK_eq] at hx
        cases hpo : pendOk P ops st.sz (pendL ops rs j) with
        | false => rw [hpo, cond_false] at hx; exact hx.elim
        | true =>
        rw [hpo, cond_true, St.blurK_eq] at hx
        have hb1 : HRel C (st.blur (pendD ops rs j)).hp w := by rw [St.blur_hp]; exact h
        have hb2 := ha.blur (pendD ops rs j)
        have hb3 : HeldRel P C (st.blur (pendD ops rs j)).hp held L := by rw [St.blur_hp]; exact hH
        have pick : (∀ p ∈ D, p.1 ≠ j) → wpAnyG P .any ops Q L f (markA ops.size (bitsE D m)) a w := fun hjD => by
          have hany : ∀ p ∈ rs, p ≠ j → ∀ o t d, ops[p]? = some o → allocOf o = some (t, d) → (st.blur (pendD ops rs j)).get d = .any := fun p hp hne o t d r1 r2 => by
            refine St.blur_any _ ha.most (.inr ?_) ?_
            · exact List.mem_filterMap.2 ⟨p, mem_pendL.2 ⟨hp, hne⟩, by unfold dstOf; rw [r1]; exact (allocOf_ok r2).2.2⟩
            · have := List.all_eq_true.1 hpo p (mem_pendL.2 ⟨hp, hne⟩)
              rw [r1] at this
              simp only [r2, Bool.and_eq_true] at this
              exact blt_true.1 this.2
          have hpo' : pendOk P ops (st.blur (pendD ops rs j)).sz (pendL ops rs j) = true := by rw [St.blur_sz]; exact hpo
          rcases xpick_ok hpk with e | ⟨e1, e2, e3, e4⟩
          · exact goes_pick htb hcf ih k1 (by rw [e]; exact List.mem_cons_self) (fun p hp hne => absurd (List.mem_singleton.1 (e ▸ hp)) hne) (fun i hi k hk hij _ _ => absurd (List.mem_singleton.1 (e ▸ hi)) hij) hcl hpo' hany f hC hk hb1 hb2 hb3 hS hD hjD hf hx
          · exact goes_pick htb hcf ih k1 e1 (fun p hp hne => ⟨(e4 p hp hne).1, (e4 p hp hne).2, apartD_ok e3 j e1 p hp (Ne.symm hne)⟩) (fun i hi k hk _ _ hne => apartD_ok e3 i hi k hk hne) hcl hpo' hany f hC hk hb1 hb2 hb3 hS hD hjD hf hx
        cases D with
        | nil => exact pick fun p hp => nomatch hp
        | cons p D =>
          by_cases hp : ∀ q ∈ p :: D, q.1 ≠ j
          · exact pick hp
          · have hrs : rs = [j] := by
              rcases xpick_ok hpk with e | ⟨e1, e2, e3, e4⟩
              · exact e
              · exfalso
                refine hp fun q hq e => ?_
                have := hD.alloc hq
                rw [e, e2] at this; cases this
            have hpj : p.1 = j := by
              have := hD.rdy p List.mem_cons_self
              rw [k1, hrs] at this
              exact List.mem_singleton.1 this
            obtain ⟨i, g⟩ := p
            simp only at hpj
            subst hpj
            exact goes_adopt ih hC hk hb1 hb2 hb3 hcl hS hD hf hx
      · cases D with
        | cons p D =>
          obtain ⟨i, g⟩ := p
          have hirs : i ∈ rs := by rw [← k1]; exact hD.rdy (i, g) List.mem_cons_self
          have := T.boths_mem hx _ (List.mem_map.2 ⟨i, hirs, rfl⟩)
          rw [natK_eq] at this
          exact goes_adopt ih hC hk h ha hH hcl hS hD hf this
        | nil =>
          obtain ⟨i0, hi0⟩ : ∃ i, i ∈ rs := List.exists_mem_of_ne_nil _ k2
          obtain ⟨hlt0, hun0, _⟩ := rdy_iff.1 (by rw [k1]; exact hi0 : i0 ∈ Region.ready .any ops (markA ops.size m))
          obtain ⟨f, rfl⟩ : ∃ f', f = f' + 1 := ⟨f - 1, by have : 0 < cnt ops.size (bitsE [] m) := cnt_pos hlt0 hun0; omega⟩
          refine ⟨fun h0 => absurd (k1.symm.trans h0) k2, fun i hi => ?_⟩
          have := T.boths_mem hx _ (List.mem_map.2 ⟨i, k1 ▸ hi, rfl⟩)
          rw [natK_eq] at this
          exact goes_real htb hcf ih hC hk h ha hH hcl hD hf hi (fun p hp => nomatch hp) (fun p hp => nomatch hp) this
end
end
end
end Go.Proofs.YtkogjjeoihnjpaaGreat.Sx
end
section
set_option linter.unusedVariables false
set_option linter.unusedSimpArgs false
namespace Go.Proofs.YtkogjjeoihnjpaaGreat.Sx
open Go
noncomputable section
theorem KsOk.cons0 {V : Env} {k : Ks} {c : E} {b : Bool} (h : c.tr V = b) (hk : KsOk V k) : KsOk V ((c, b) :: k) := fun q hq => by
  rcases List.mem_cons.1 hq with rfl | hq
  · exact h
  · exact hk q hq
/-- a test against a number, the number last -/
def swK : Ks → Ks
  | [] => []
  | (.cmp .neq (.lit n) x, b) :: r => (.cmp .eql x (.lit n), !b) :: swK r
  | (.cmp .eql (.lit n) x, b) :: r => (.cmp .eql x (.lit n), b) :: swK r
  | q :: r => q :: swK r
theorem swK_ok {V : Env} : ∀ {k : Ks}, KsOk V k → KsOk V (swK k)
  | [], h => h
  | q :: r, h => by
    have ih := swK_ok (k := r) h.tail
    have h0 := h _ List.mem_cons_self
    unfold swK
    split
    · rename_i heq; cases heq
    · rename_i n x b r' heq
      cases heq
      refine KsOk.cons0 ?_ ih
      rw [tr_cmp, den_lit] at h0 ⊢
      simp only [cmpD, bne] at h0 ⊢
      rw [← h0, Bool.not_not, Bool.eq_iff_iff]
      simp only [beq_iff_eq]
      exact eq_comm
    · rename_i n x b r' heq
      cases heq
      refine KsOk.cons0 ?_ ih
      rw [tr_cmp, den_lit] at h0 ⊢
      simp only [cmpD] at h0 ⊢
      rw [← h0, Bool.eq_iff_iff]
      simp only [beq_iff_eq]
      exact eq_comm
    · rename_i heq
      cases heq
      exact KsOk.cons0 h0 ih
theorem swK_sc {V : Env} {d : Nat → Prop} : ∀ {k : Ks}, (∀ q ∈ k, q.1.sc V d ∧ q.1.tr V = q.2) → ∀ q ∈ swK k, q.1.sc V d ∧ q.1.tr V = q.2
  | [], h => h
  | q :: r, h => by
    have ih := swK_sc (k := r) fun q hq => h q (List.mem_cons_of_mem _ hq)
    obtain ⟨s1, s2⟩ := h _ List.mem_cons_self
    have h0 : KsOk V [q] := fun q' hq' => by rw [List.mem_singleton.1 hq']; exact s2
    have h1 := swK_ok h0
    unfold swK at h1 ⊢
    split
    · rename_i heq; cases heq
    · rename_i n x b r' heq
      cases heq
      intro q hq
      rcases List.mem_cons.1 hq with rfl | hq
      · exact ⟨⟨s1.2, s1.1⟩, h1 _ List.mem_cons_self⟩
      · exact ih q hq
    · rename_i n x b r' heq
      cases heq
      intro q hq
      rcases List.mem_cons.1 hq with rfl | hq
      · exact ⟨⟨s1.2, s1.1⟩, h1 _ List.mem_cons_self⟩
      · exact ih q hq
    · rename_i heq
      cases heq
      intro q hq
      rcases List.mem_cons.1 hq with rfl | hq
      · exact ⟨s1, s2⟩
      · exact ih q hq
/-- the terms of a sum of parts -/
def zeroT : E → List E
  | .pl .add a b => zeroT a ++ zeroT b
  | .pl .mul a (.lit (.ofNat (n + 1))) => zeroT a
  | e => [e]
def posE (e : E) : Bool := match e.rng with
  | some (l, _) => decide (0 ≤ l)
  | none => false
theorem posE_ok {V : Env} {d : Nat → Prop} {e : E} (hs : e.sc V d) (h : posE e = true) : 0 ≤ e.den V := by
  unfold posE at h
  split at h
  · rename_i l u hr
    have := E.rng_ok V d e l u hs hr
    have := of_decide_eq_true h
    omega
  · cases h
theorem zeroT_ok {V : Env} {d : Nat → Prop} {e : E} (hs : e.sc V d) (hp : (zeroT e).all posE = true) : 0 ≤ e.den V ∧ (e.den V = 0 → ∀ t ∈ zeroT e, t.den V = 0) := by
  fun_induction zeroT e with
  | case1 a b iha ihb =>
    simp only [List.all_append, Bool.and_eq_true] at hp
    obtain ⟨a1, a2⟩ := iha hs.1 hp.1
    obtain ⟨b1, b2⟩ := ihb hs.2 hp.2
    rw [den_pl]
    show 0 ≤ a.den V + b.den V ∧ (a.den V + b.den V = 0 → _)
    refine ⟨by omega, fun h t ht => ?_⟩
    rcases List.mem_append.1 ht with ht | ht
    · exact a2 (by omega) t ht
    · exact b2 (by omega) t ht
  | case2 a n iha =>
    obtain ⟨a1, a2⟩ := iha hs.1 hp
    rw [den_pl, den_lit]
    show 0 ≤ a.den V * Int.ofNat (n + 1) ∧ (a.den V * Int.ofNat (n + 1) = 0 → _)
    refine ⟨Int.mul_nonneg a1 (by simp only [Int.ofNat_eq_natCast]; omega), fun h t ht => a2 ?_ t ht⟩
    rcases Int.mul_eq_zero.1 h with h | h
    · exact h
    · simp only [Int.ofNat_eq_natCast] at h; omega
  | case3 e h1 h2 =>
    refine ⟨posE_ok hs (by simpa using hp), fun h t ht => ?_⟩
    rw [List.mem_singleton.1 ht]; exact h
/-- is it known that such a part is not 0, of which a greater part is? -/
def partN (x : E) (a b : Nat) : Ks → Bool
  | [] => false
  | (.cmp .eql (.pl .rem (.pl .quo y (.lit (.ofNat c))) (.lit (.ofNat d))) (.lit (.ofNat (m + 1))), true) :: r =>
    bif (bif eEq y x then (bif Nat.ble 1 a then (bif Nat.beq (c % a) 0 then (bif Nat.ble 1 (c / a * d) then Nat.beq (b % (c / a * d)) 0 else false) else false) else false) else false) then true else partN x a b r
  | _ :: r => partN x a b r
theorem part_zero (x : Int) (a b c d : Nat) (ha : 1 ≤ a) (hc : c % a = 0) (hq : 1 ≤ c / a * d) (hb : b % (c / a * d) = 0) (h : x / (a : Int) % (b : Int) = 0) : x / (c : Int) % (d : Int) = 0 := by
  obtain ⟨q, rfl⟩ : ∃ q, c = a * q := ⟨c / a, by have := Nat.div_add_mod c a; omega⟩
  rw [Nat.mul_div_cancel_left q ha] at hq hb
  obtain ⟨r, rfl⟩ : ∃ r, b = q * d * r := ⟨b / (q * d), by have := Nat.div_add_mod b (q * d); omega⟩
  have hq0 : 1 ≤ q := by
    rcases Nat.eq_zero_or_pos q with rfl | hq'
    · simp at hq
    · exact hq'
  rw [Int.natCast_mul, ← Int.ediv_ediv_of_nonneg (by omega : (0 : Int) ≤ (a : Int))]
  obtain ⟨y, hy⟩ := Int.dvd_of_emod_eq_zero h
  rw [hy, Int.natCast_mul, Int.natCast_mul, Int.mul_assoc, Int.mul_assoc, Int.mul_ediv_cancel_left _ (by omega)]
  exact Int.mul_emod_right _ _
theorem partN_ok {V : Env} {x : E} {a b : Nat} (h0 : x.den V / (a : Int) % (b : Int) = 0) : ∀ {k : Ks}, KsOk V k → partN x a b k = true → False
  | [], _, h => nomatch h
  | (e, t) :: r, hk, h => by
    unfold partN at h
    split at h
    · cases h
    · rename_i y c d m r' heq
      cases heq
      cases hb : (bif eEq y x then (bif Nat.ble 1 a then (bif Nat.beq (c % a) 0 then (bif Nat.ble 1 (c / a * d) then Nat.beq (b % (c / a * d)) 0 else false) else false) else false) else false) with
      | true =>
        obtain ⟨h1, h2⟩ := and_bif hb
        obtain ⟨h2, h3⟩ := and_bif h2
        obtain ⟨h3, h4⟩ := and_bif h3
        obtain ⟨h4, h5⟩ := and_bif h4
        have h3 : c % a = 0 := Nat.eq_of_beq_eq_true h3
        have h5 : b % (c / a * d) = 0 := Nat.eq_of_beq_eq_true h5
        have h6 := part_zero (x.den V) a b c d (Nat.le_of_ble_eq_true h2) h3 (Nat.le_of_ble_eq_true h4) h5 h0
        have h7 := hk _ List.mem_cons_self
        rw [tr_cmp, den_lit, den_pl, den_pl, den_lit, den_lit] at h7
        simp only [cmpD, plD, beq_iff_eq, Int.ofNat_eq_natCast] at h7
        rw [eEq_den h1, h6] at h7
        omega
      | false => rw [hb, cond_false] at h; exact partN_ok h0 hk.tail h
    · rename_i heq
      cases heq
      exact partN_ok h0 hk.tail h
def partsN (k0 : Ks) : List E → Bool
  | [] => false
  | .pl .rem (.pl .quo x (.lit (.ofNat a))) (.lit (.ofNat b)) :: r => bif partN x a b k0 then true else partsN k0 r
  | _ :: r => partsN k0 r
theorem partsN_ok {V : Env} {k0 : Ks} (hk : KsOk V k0) : ∀ {l : List E}, (∀ t ∈ l, t.den V = 0) → partsN k0 l = true → False
  | [], _, h => nomatch h
  | e :: r, hl, h => by
    have ih := partsN_ok hk (l := r) fun t ht => hl t (List.mem_cons_of_mem _ ht)
    unfold partsN at h
    split at h
    · cases h
    · rename_i x a b r' heq
      cases heq
      cases hb : partN x a b k0 with
      | true => exact partN_ok (hl _ List.mem_cons_self) hk hb
      | false => rw [hb, cond_false] at h; exact ih h
    · rename_i heq
      cases heq
      exact ih h
/-- is it known that some quotient of it is not 0? -/
def quoN (x : E) : Ks → Bool
  | [] => false
  | (.cmp .eql (.pl .quo y (.lit _)) (.lit (.ofNat 0)), false) :: r => bif eEq y x then true else quoN x r
  | (.cmp .neq (.pl .quo y (.lit _)) (.lit (.ofNat 0)), true) :: r => bif eEq y x then true else quoN x r
  | (.cmp .gtr (.pl .rem y (.lit _)) (.lit (.ofNat _)), true) :: r => bif eEq y x then true else quoN x r
  | _ :: r => quoN x r
theorem quoN_ok {V : Env} {x : E} (h0 : x.den V = 0) : ∀ {k : Ks}, KsOk V k → quoN x k = true → False
  | [], _, h => nomatch h
  | (e, t) :: r, hk, h => by
    have hq := hk _ List.mem_cons_self
    unfold quoN at h
    split at h
    · cases h
    · rename_i y n r' heq
      cases heq
      cases hb : eEq y x with
      | true =>
        rw [tr_cmp, den_lit, den_pl, den_lit, eEq_den hb, h0] at hq
        simp [cmpD, plD] at hq
      | false => rw [hb, cond_false] at h; exact quoN_ok h0 hk.tail h
    · rename_i y n r' heq
      cases heq
      cases hb : eEq y x with
      | true =>
        rw [tr_cmp, den_lit, den_pl, den_lit, eEq_den hb, h0] at hq
        simp [cmpD, plD] at hq
      | false => rw [hb, cond_false] at h; exact quoN_ok h0 hk.tail h
    · rename_i y n m r' heq
      cases heq
      cases hb : eEq y x with
      | true =>
        rw [tr_cmp, den_lit, den_pl, den_lit, eEq_den hb, h0] at hq
        simp only [cmpD, plD, Int.zero_emod] at hq
        have hq := of_decide_eq_true hq
        simp only [Int.ofNat_eq_natCast] at hq
        omega
      | false => rw [hb, cond_false] at h; exact quoN_ok h0 hk.tail h
    · rename_i heq
      cases heq
      exact quoN_ok h0 hk.tail h
/-- what is known cannot be: a sum is 0, and a part of it is not -/
def deadZ (k0 : Ks) : Ks → Bool
  | [] => false
  | (.cmp .eql e (.lit (.ofNat 0)), true) :: r => bif quoN e k0 then true else bif (bif (zeroT e).all posE then partsN k0 (zeroT e) else false) then true else deadZ k0 r
  | _ :: r => deadZ k0 r
theorem deadZ_ok {V : Env} {d : Nat → Prop} {k0 : Ks} (hk : KsOk V k0) : ∀ {k : Ks}, (∀ q ∈ k, q.1.sc V d ∧ q.1.tr V = q.2) → deadZ k0 k = true → False
  | [], _, h => nomatch h
  | q :: r, hl, h => by
    have ih := deadZ_ok hk (k := r) fun q hq => hl q (List.mem_cons_of_mem _ hq)
    obtain ⟨s1, s2⟩ := hl _ List.mem_cons_self
    unfold deadZ at h
    split at h
    · cases h
    · rename_i e r' heq
      cases heq
      rw [tr_cmp, den_lit] at s2
      simp only [cmpD, beq_iff_eq] at s2
      cases hqn : quoN e k0 with
      | true => exact quoN_ok s2 hk hqn
      | false =>
      rw [hqn, cond_false] at h
      cases hb : (bif (zeroT e).all posE then partsN k0 (zeroT e) else false) with
      | true =>
        obtain ⟨h1, h2⟩ := and_bif hb
        have h3 := (zeroT_ok s1.1 h1).2
        exact partsN_ok hk (h3 s2) h2
      | false => rw [hb, cond_false] at h; exact ih h
    · rename_i heq
      cases heq
      exact ih h
end
end Go.Proofs.YtkogjjeoihnjpaaGreat.Sx
end
