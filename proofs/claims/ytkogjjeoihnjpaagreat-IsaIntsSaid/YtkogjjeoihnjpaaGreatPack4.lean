/- A program run on terms: statements, loops, functions. No condition. A program run on terms: loops over maps. No condition. A program run on terms: statements. No condition. A program run on terms: functions. No condition. A program run on terms: a table of functions; ends looked at. No condition. A program run on terms: what a function answers is kept, for all arguments of a form. No condition. Structs of numbers that came in by value: their cells; contracts side by side. No condition. A program run on terms: functions that are not looked into; what a run picks. No condition. A program run on terms: a function's answer told by a function on numbers. No condition. A program run on terms: a function's answer as a function on numbers; two functions that answer alike; such an answer as a contract. No condition. A program run on terms: a function that answers one truth wherever something is known. No condition. -/
import Derived.Test.YtkogjjeoihnjpaaGreatPack3
import Derived.LoopN
import Derived.StillTail
import Derived.Scope
import Derived.Test.YtkogjjeoihnjpaaGreatPack1
import Derived.Test.YtkogjjeoihnjpaaGreatPack2
import Derived.Maps.RangeRun
import Derived.Below
import Derived.ProofKit
import Derived.OpenShut
import Derived.ChangeOld
section
set_option linter.unusedVariables false
set_option linter.unusedSimpArgs false
namespace Go.Proofs.YtkogjjeoihnjpaaGreat.Sx
open Go
noncomputable section
/-- slots, as a tree of ten levels -/
inductive Tr where
  | nil
  | leaf (v : SV)
  | node (l r : Tr)
  deriving DecidableEq, Inhabited
def Tr.get : Nat → Tr → Nat → SV
  | 0, .leaf v, _ => v
  | k + 1, .node l r, n => bif Nat.beq (n % 2) 0 then l.get k (n / 2) else r.get k (n / 2)
  | _, _, _ => SV.undef
def Tr.set : Nat → Tr → Nat → SV → Tr
  | 0, _, _, v => .leaf v
  | k + 1, .node l r, n, v => bif Nat.beq (n % 2) 0 then .node (l.set k (n / 2) v) r else .node l (r.set k (n / 2) v)
  | k + 1, _, n, v => bif Nat.beq (n % 2) 0 then .node (Tr.nil.set k (n / 2) v) .nil else .node .nil (Tr.nil.set k (n / 2) v)
theorem Tr.get_nil (k n : Nat) : Tr.nil.get k n = SV.undef := by cases k <;> rfl
theorem Tr.get_leaf (k n : Nat) (v : SV) : (Tr.leaf v).get (k + 1) n = SV.undef := rfl
theorem Tr.get_set : ∀ (k : Nat) (t : Tr) (n m : Nat) (v : SV), n < 2 ^ k → m < 2 ^ k → (t.set k n v).get k m = if m = n then v else t.get k m
  | 0, t, n, m, v, hn, hm => by
    have : n = 0 := by simpa using hn
    have : m = 0 := by simpa using hm
    subst_vars
    rfl
  | k + 1, t, n, m, v, hn, hm => by
    have hn' : n / 2 < 2 ^ k := by rw [Nat.pow_succ] at hn; omega
    have hm' : m / 2 < 2 ^ k := by rw [Nat.pow_succ] at hm; omega
    have gen : ∀ l r : Tr, ((bif Nat.beq (n % 2) 0 then Tr.node (l.set k (n / 2) v) r else Tr.node l (r.set k (n / 2) v)) : Tr).get (k + 1) m = if m = n then v else (Tr.node l r).get (k + 1) m := fun l r => by
      cases hb : Nat.beq (n % 2) 0 with
      | true =>
        have e : n % 2 = 0 := Nat.eq_of_beq_eq_true hb
        rw [cond_true]
        simp only [Tr.get]
        cases hc : Nat.beq (m % 2) 0 with
        | true =>
          have e' : m % 2 = 0 := Nat.eq_of_beq_eq_true hc
          rw [cond_true, cond_true, Tr.get_set k l _ _ v hn' hm']
          by_cases hmn : m = n
          · subst hmn; simp
          · rw [if_neg hmn, if_neg (by omega)]
        | false =>
          have e' : m % 2 ≠ 0 := fun e => by rw [e] at hc; cases hc
          rw [if_neg (fun h => e' (by rw [h]; exact e))]; rfl
      | false =>
        have e : n % 2 ≠ 0 := fun e => by rw [e] at hb; cases hb
        rw [cond_false]
        simp only [Tr.get]
        cases hc : Nat.beq (m % 2) 0 with
        | true =>
          have e' : m % 2 = 0 := Nat.eq_of_beq_eq_true hc
          rw [if_neg (fun h => e (by rw [← h]; exact e'))]; rfl
        | false =>
          have e' : m % 2 ≠ 0 := fun e => by rw [e] at hc; cases hc
          rw [cond_false, cond_false, Tr.get_set k r _ _ v hn' hm']
          by_cases hmn : m = n
          · subst hmn; simp
          · rw [if_neg hmn, if_neg (by omega)]
    have nn : (Tr.node Tr.nil Tr.nil).get (k + 1) m = SV.undef := by
      simp only [Tr.get, Tr.get_nil]; cases Nat.beq _ 0 <;> rfl
    cases t with
    | node l r => exact gen l r
    | nil => have := gen .nil .nil; rw [nn] at this; exact this
    | leaf u => have := gen .nil .nil; rw [nn] at this; exact this
structure St where
  sz : Nat
  tmps : Tr
  hp : Hp
  deriving DecidableEq, Inhabited
theorem zero_rec {α : Type} (k : Nat) (a b : α) : Nat.rec (motive := fun _ => α) a (fun _ _ => b) k = bif Nat.beq k 0 then a else b := by cases k <;> rfl
theorem bool_rec {α : Type} (c : Bool) (a b : α) : Bool.rec (motive := fun _ => α) b a c = bif c then a else b := by cases c <;> rfl
def Tr.getR (i : Nat) : Tr → Nat → SV :=
  Nat.rec (motive := fun _ => Tr → Nat → SV) (fun t _ => Tr.rec (motive := fun _ => SV) SV.undef (fun v => v) (fun _ _ _ _ => SV.undef) t)
    (fun _ ih t n => Tr.rec (motive := fun _ => SV) SV.undef (fun _ => SV.undef) (fun l r _ _ => Nat.rec (motive := fun _ => SV) (ih l (Nat.div n 2)) (fun _ _ => ih r (Nat.div n 2)) (Nat.mod n 2)) t) i
theorem Tr.getR_eq : ∀ (i : Nat) (t : Tr) (n : Nat), Tr.getR i t n = t.get i n := by
  intro i
  induction i with
  | zero => intro t n; cases t <;> rfl
  | succ i ih =>
    intro t n
    cases t with
    | nil => rfl
    | leaf v => rfl
    | node l r =>
      show (Nat.rec (motive := fun _ => SV) (Tr.getR i l (n / 2)) (fun _ _ => Tr.getR i r (n / 2)) (n % 2) : SV) = _
      rw [ih, ih, zero_rec]; rfl
/-- how deep the tree is -/
def lv (sz : Nat) : Nat := Nat.succ (Nat.log2 sz)
theorem lt_lv {n sz : Nat} (h : n < sz) : n < 2 ^ lv sz := Nat.lt_trans h Nat.lt_log2_self
theorem le_lv {n sz : Nat} (h : n ≤ sz) : n ≤ 2 ^ lv sz := Nat.le_of_lt (Nat.lt_of_le_of_lt h Nat.lt_log2_self)
def St.get (st : St) (n : Nat) : SV := Bool.rec (motive := fun _ => SV) SV.undef (Tr.getR (lv st.sz) st.tmps n) (Nat.blt n st.sz)
theorem St.get_eq (st : St) (n : Nat) : st.get n = bif Nat.blt n st.sz then Tr.getR (lv st.sz) st.tmps n else SV.undef := by unfold St.get; rw [bool_rec]
structure ARel (C : Ctx) (st : St) (a : Act) : Prop where
  sz : st.sz = a.tmps.size
  most : st.sz ≤ 1024
  rel : ∀ n, SV.rel C (st.get n) (a.tmps.getD n Go.undef)
  defers : a.defers = []
/-- the functions of the text, by number -/
abbrev Tb := FuncId → Option Func
def TbOk (P : Program) (tb : Tb) : Prop := ∀ g fn, tb g = some fn → P.funcs[g]? = some fn ∧ (fn.name == "runtime.NumGoroutine") = false ∧ ∃ c, fn.body = some c
def ptrSV (p : Nat × Nat) : SV := .sc (.ptr p.1 p.2)
/-- the signature of a context -/
def Ctx.Is (C : Ctx) (X : Ext) (ft : Nat → List Int → List Int) : Prop := C.V.f = ft ∧ C.X = X ∧ ∀ i v, X.px i = some v → C.vd i ∧ C.V.x i = v
theorem Ctx.Is.le {C C' : Ctx} {X : Ext} {ft} (h : C.Is X ft) (k : C.le C') : C'.Is X ft := ⟨k.f.trans h.1, k.X.trans h.2.1, fun i v hi => ⟨(k.v i (h.2.2 i v hi).1).1, (k.v i (h.2.2 i v hi).1).2.2.2.trans (h.2.2 i v hi).2⟩⟩
/-- calls -/
abbrev Cf := FuncId → List SV → Hp → XR
def CallOk (P : Program) (C : Ctx) (w : World) (f : FuncId) (vs : Array Value) (t : XR) : Prop :=
  ∀ Φ : Env → SV × Hp → Prop, t.holds Φ C.V → Calls P f vs w fun e w' => ∃ C' v sv hp', e = .returned v ∧ sv.rel C' v ∧ HRel C' hp' w' ∧ Kp C w C' w' ∧ Φ C'.V (sv, hp')
/-- what the summaries of the text's functions are -/
abbrev Ft := Nat → List Int → List Int
def CfOk (P : Program) (X : Ext) (ft : Ft) (cf : Cf) : Prop := ∀ (f : FuncId) (args : List SV) (hp : Hp) (C : Ctx) (w : World) (vs : List Value), C.Is X ft → HRel C hp w → All2 (SV.rel C) args vs → CallOk P C w f vs.toArray (cf f args hp)
def xcall (P : Program) (tb : Tb) (cf : Cf) (ev : Operand → Option SV) (f : Operand) (args : Array Operand) (hp : Hp) : XR :=
  match ev f, xevs ev args.toList with
  | some (.pv (.one (.fn (.func g) fs cs))), some l => match tb g with
    | some _ => cf g (fs.map ptrSV ++ l ++ cs.map ptrSV) hp
    | none => .bad "call which"
  | some (.pv (.one (.fn (.via t path g true) (p :: fs) _))), some l => match tb g, P.underlying t with
    | some _, some (.pointer _) => if path.isEmpty then cf g (ptrSV p :: fs.map ptrSV ++ l) hp else .bad "call path"
    | _, _ => .bad "call which"
  | some (.pv (.one (.mth name t b o))), some l =>
    match xmeth P t name with
    | some g => match tb g with
      | some _ => cf g (.sc (.ptr b o) :: l) hp
      | none => .bad "call which"
    | none => .bad "call method"
  | _, _ => .bad "call"
/-- a call through an interface -/
def xinvoke (P : Program) (tb : Tb) (cf : Cf) (ev : Operand → Option SV) (r : Operand) (name : String) (args : Array Operand) (hp : Hp) : XR :=
  match ev r, xevs ev args.toList with
  | some (.pv (.one (.iface t c))), some l =>
    match xmeth P t name with
    | some g => match tb g with
      | some _ => cf g (.sc c :: l) hp
      | none => .bad "invoke which"
    | none => .bad "invoke method"
  | _, _ => .bad "invoke"
def xoper (P : Program) (tb : Tb) (cf : Cf) (st : St) (o : Oper) : XR :=
  match pop P st.hp.gh.k (xev st.hp.gh.k st.get) o.op with
  | some sv => .ret (sv, st.hp)
  | none =>
    match o.op with
    | .call { callee := .value f, args, .. } => xcall P tb cf (xev st.hp.gh.k st.get) f args st.hp
    | .call { callee := .invoke r name, args, .. } => xinvoke P tb cf (xev st.hp.gh.k st.get) r name args st.hp
    | op => xop P (xev st.hp.gh.k st.get) op st.hp
def St.put (st : St) (d : Option Tmp) (v : SV) (hp : Hp) : St :=
  match d with
  | some d => bif Nat.blt d st.sz then ⟨st.sz, st.tmps.set (lv st.sz) d v, hp⟩ else ⟨st.sz, st.tmps, hp⟩
  | none => ⟨st.sz, st.tmps, hp⟩
/-- by the recursors themselves: the kernel is quicker so -/
noncomputable def Tr.setK {β : Type} (i : Nat) : Tr → Nat → SV → (Tr → β) → β :=
  Nat.rec (motive := fun _ => Tr → Nat → SV → (Tr → β) → β) (fun _ _ v k => k (.leaf v))
    (fun _ ih t n v k => Tr.rec (motive := fun _ => β) (Nat.rec (motive := fun _ => β) (ih .nil (Nat.div n 2) v fun l => k (.node l .nil)) (fun _ _ => ih .nil (Nat.div n 2) v fun r => k (.node .nil r)) (Nat.mod n 2)) (fun _ => Nat.rec (motive := fun _ => β) (ih .nil (Nat.div n 2) v fun l => k (.node l .nil)) (fun _ _ => ih .nil (Nat.div n 2) v fun r => k (.node .nil r)) (Nat.mod n 2)) (fun l r _ _ => Nat.rec (motive := fun _ => β) (ih l (Nat.div n 2) v fun l => k (.node l r)) (fun _ _ => ih r (Nat.div n 2) v fun r => k (.node l r)) (Nat.mod n 2)) t) i
theorem Tr.setK_eq {β : Type} : ∀ (i : Nat) (t : Tr) (n : Nat) (v : SV) (k : Tr → β), t.setK i n v k = k (t.set i n v) := by
  intro i
  induction i with
  | zero => intro t n v k; rfl
  | succ i ih =>
    intro t n v k
    have h2 : ∀ l r : Tr, (Nat.rec (motive := fun _ => β) (l.setK i (n / 2) v (fun l => k (.node l r))) (fun _ _ => r.setK i (n / 2) v fun r => k (.node l r)) (n % 2) : β) = k (bif Nat.beq (n % 2) 0 then .node (l.set i (n / 2) v) r else .node l (r.set i (n / 2) v)) := fun l r => by
      rw [zero_rec]
      cases Nat.beq (n % 2) 0 <;> simp only [cond_true, cond_false, ih]
    cases t with
    | node l r => exact h2 l r
    | nil => exact h2 .nil .nil
    | leaf u => exact h2 .nil .nil
/-- the same, reckoned at once -/
noncomputable def St.putK {β : Type} (st : St) (d : Option Tmp) (v : SV) (hp : Hp) (k : St → β) : β :=
  svK v fun v => natK st.sz fun sz => Option.rec (motive := fun _ => β) (k ⟨sz, st.tmps, hp⟩) (fun d => Bool.rec (motive := fun _ => β) (k ⟨sz, st.tmps, hp⟩) (st.tmps.setK (lv sz) d v fun t => k ⟨sz, t, hp⟩) (Nat.blt d sz)) d
theorem St.putK_eq {β : Type} (st : St) (d : Option Tmp) (v : SV) (hp : Hp) (k : St → β) : st.putK d v hp k = k (st.put d v hp) := by
  unfold St.putK St.put
  rw [svK_eq, natK_eq]
  cases d with
  | none => rfl
  | some d =>
    simp only [Tr.setK_eq]
    generalize Nat.blt d st.sz = b
    cases b <;> rfl
def xwant (ops : Array Oper) (st : St) (o : Oper) : Option E :=
  match o.guard with
  | none => some (.tt true)
  | some (j, want) =>
    match (ops[j]?).bind (·.dst) with
    | none => some (.tt false)
    | some d => match st.get d with
      | .pv (.one (.bool e)) => some (if want then e else mkNo e)
      | .pv (.one (.ext _)) => none
      | .any => none
      | _ => some (.tt false)
def xstep (P : Program) (tb : Tb) (cf : Cf) (ops : Array Oper) (st : St) (o : Oper) : T St :=
  match xwant ops st o with
  | none => .bad "guard"
  | some e => xif e st.hp (fun hp => (xoper P tb cf ⟨st.sz, st.tmps, hp⟩ o).bind fun r => st.putK o.dst r.1 r.2 .ret) (fun hp => st.putK o.dst SV.undef hp .ret)
def xlist (P : Program) (tb : Tb) (cf : Cf) (ops : Array Oper) : List Oper → St → T St
  | [], st => .ret st
  | o :: rest, st => (xstep P tb cf ops st o).bind fun st' => xlist P tb cf ops rest st'
section
variable {P : Program} {X : Ext} {ft : Ft} {tb : Tb} {cf : Cf} {C : Ctx} {w : World} {st : St} {a : Act}
theorem ARel.ev (h : ARel C st a) {ks : Ks} (hk : KsOk C.V ks) : EvOk C (xev ks st.get) a.eval := by
  intro x sv hx
  cases x with
  | tmp t =>
    simp only [xev, Option.some.injEq] at hx
    subst hx
    exact normV_ok hk (h.rel t)
  | const v =>
    simp only [xev] at hx
    obtain ⟨p, h1, rfl⟩ := Option.map_eq_some_iff.1 hx
    exact ofValue_rel C h1
  | global g => simp [xev] at hx
  | func f => simp only [xev, Option.some.injEq] at hx; subst hx; exact ⟨[], [], .nil, .nil, rfl⟩
theorem ARel.le {C' : Ctx} (h : ARel C st a) (hl : C.le C') : ARel C' st a := ⟨h.sz, h.most, fun n => SV.rel.le hl (h.rel n), h.defers⟩
theorem blt_true {n m : Nat} : Nat.blt n m = true ↔ n < m := by simp [Nat.blt_eq]
theorem blt_false {n m : Nat} (h : Nat.blt n m = false) : ¬ n < m := fun k => by rw [blt_true.2 k] at h; cases h
theorem put_get {st : St} (hm : st.sz ≤ 1024) (d : Nat) (v : SV) (hp : Hp) (n : Nat) : (st.put (some d) v hp).get n = if n = d ∧ d < st.sz then v else st.get n := by
  unfold St.put
  simp only
  cases hb : Nat.blt d st.sz with
  | false => rw [cond_false, if_neg (fun h => blt_false hb h.2)]; rfl
  | true =>
    have hd : d < st.sz := blt_true.1 hb
    rw [cond_true]
    simp only [St.get_eq, Tr.getR_eq]
    cases hn : Nat.blt n st.sz with
    | false => rw [cond_false, if_neg]; rfl; rintro ⟨rfl, _⟩; exact blt_false hn hd
    | true =>
      have hn' : n < st.sz := blt_true.1 hn
      rw [cond_true, cond_true, Tr.get_set (lv st.sz) _ _ _ _ (lt_lv hd) (lt_lv hn')]
      by_cases e : n = d
      · rw [if_pos e, if_pos ⟨e, hd⟩]
      · rw [if_neg e, if_neg (fun h => e h.1)]
theorem St.put_sz (st : St) (d : Option Tmp) (v : SV) (hp : Hp) : (st.put d v hp).sz = st.sz := by
  unfold St.put
  split
  · cases Nat.blt _ _ <;> rfl
  · rfl
theorem ARel.put (h : ARel C st a) {sv : SV} {v : Value} (hv : sv.rel C v) (d : Option Tmp) (hp : Hp) : ARel C (st.put d sv hp) (a.put d v) := by
  refine ⟨?_, by rw [St.put_sz]; exact h.most, fun n => ?_, ?_⟩
  · rw [St.put_sz, h.sz]; cases d <;> simp [Act.put]
  · cases d with
    | none => exact h.rel n
    | some d =>
      rw [put_get h.most]
      by_cases e : n = d ∧ d < st.sz
      · rw [if_pos e]
        obtain ⟨rfl, e2⟩ := e
        have : n < a.tmps.size := by rw [← h.sz]; exact e2
        simp only [Act.put]
        rw [Array.getD_eq_getD_getElem?, Array.getElem?_setIfInBounds_self_of_lt this]
        exact hv
      · rw [if_neg e]
        simp only [Act.put]
        by_cases e2 : n = d
        · subst e2
          have : ¬ n < a.tmps.size := by rw [← h.sz]; exact fun k => e ⟨rfl, k⟩
          have e3 : a.tmps.setIfInBounds n v = a.tmps := by simp [Array.setIfInBounds, this]
          rw [e3]
          exact h.rel n
        · rw [Array.getD_eq_getD_getElem?, Array.getElem?_setIfInBounds_ne (Ne.symm e2), ← Array.getD_eq_getD_getElem?]
          exact h.rel n
  · cases d <;> exact h.defers
theorem ARel.hp (h : ARel C st a) (hp : Hp) : ARel C ⟨st.sz, st.tmps, hp⟩ a := ⟨h.sz, h.most, h.rel, h.defers⟩
theorem ptrs_rel {l : List (Nat × Nat)} {vs : List Value} (h : All2 (ptrRel C) l vs) : All2 (SV.rel C) (l.map ptrSV) vs := by
  induction h with
  | nil => exact .nil
  | cons a b ih => exact .cons a ih
theorem xwant_ok (h : ARel C st a) {ops : Array Oper} {o : Oper} {e : E} (hw : xwant ops st o = some e) : e.sc C.V C.vd ∧ Region.wanted o (yielded ops a.tmps) = e.tr C.V := by
  unfold xwant at hw
  unfold Region.wanted
  split at hw
  · rename_i hg; cases hw; rw [hg]; exact ⟨trivial, rfl⟩
  · rename_i j want hg
    rw [hg]
    simp only [yielded]
    split at hw
    · rename_i hd; cases hw; rw [hd]; exact ⟨trivial, by simp [tr_tt]⟩
    · rename_i d hd
      rw [hd]
      simp only [Option.bind_some]
      have hr := h.rel d
      have hgd : ∀ b, a.tmps[d]? = some (.bool b) → a.tmps.getD d Go.undef = .bool b := fun b hb => by simp [Array.getD_eq_getD_getElem?, hb]
      have other : (∀ b, a.tmps.getD d Go.undef ≠ .bool b) → (match a.tmps[d]? with | some (.bool b) => some b | _ => none) = none := fun hn => by
        cases ht : a.tmps[d]? with
        | none => rfl
        | some v =>
          cases v <;> first | rfl | exact absurd (hgd _ ht) (hn _)
      split at hw
      · rename_i e' ht
        rw [ht] at hr
        obtain ⟨s, hv⟩ := hr
        have hlt : a.tmps[d]? = some (.bool (e'.tr C.V)) := by
          rw [Array.getD_eq_getD_getElem?] at hv
          cases hq : a.tmps[d]? with
          | none => rw [hq] at hv; cases hv
          | some v => rw [hq] at hv; simp only [Option.getD_some] at hv; rw [hv]
        rw [hlt]
        cases hw
        cases want
        · obtain ⟨n1, n2⟩ := mkNo_ok s
          simp only [Bool.false_eq_true, if_false]
          exact ⟨n1, by rw [n2]; cases e'.tr C.V <;> rfl⟩
        · simp only [if_true]
          exact ⟨s, by cases e'.tr C.V <;> rfl⟩
      · cases hw
      · cases hw
      · rename_i hne hne2 hne3
        cases hw
        refine ⟨trivial, ?_⟩
        rw [tr_tt]
        have hb : ∀ b, a.tmps.getD d Go.undef ≠ .bool b := fun b e => by
          rw [e] at hr
          generalize hsv : st.get d = sv at hr hne hne2 hne3
          cases sv with
          | any => exact hne3 rfl
          | tup ps => obtain ⟨_, _, k⟩ := hr; cases k
          | pv p => cases p with
            | agg cs => obtain ⟨_, _, k⟩ := hr; cases k
            | one c =>
              cases c
              case bool => exact hne _ rfl
              case ext => exact hne2 _ rfl
              all_goals
                simp only [SV.rel, PV.rel, SC.rel] at hr
                first
                  | (cases hr; done)
                  | (obtain ⟨_, hr⟩ := hr; cases hr; done)
                  | (obtain ⟨_, _, hr⟩ := hr; cases hr; done)
                  | (obtain ⟨_, _, _, hr⟩ := hr; cases hr; done)
                  | (obtain ⟨_, _, _, _, _, _, hr⟩ := hr; cases hr; done)
                  | (obtain ⟨_, _, _, _, _, _, hr, _⟩ := hr; cases hr; done)
                  | (obtain ⟨_, _, _, hr, _⟩ := hr; cases hr; done)
                  | (obtain ⟨_, _, _, _, hr⟩ := hr; cases hr; done) | (obtain ⟨_, _, _, _, _, _, hr⟩ := hr; cases hr; done) | (obtain ⟨_, _, _, _, _, _, hr, _⟩ := hr; cases hr; done)
        have := other hb
        split
        · rename_i b hq
          rw [hq] at this
          cases this
        · rfl
theorem run_callFunc {g : FuncId} (htb : TbOk P tb) {fn : Func} (hg : tb g = some fn) (args : Array Value) (w : World) : (callFunc g args).run P w = .ok (.enter g args) w := by
  obtain ⟨h1, h2, c, h3⟩ := htb g fn hg
  have h2' : ¬ fn.name = "runtime.NumGoroutine" := by simpa using h2
  simp [callFunc, h1, h2', h3]
theorem run_callMethod (htb : TbOk P tb) {t : TypeId} {name : String} {g : FuncId} (hm : xmeth P t name = some g) {fn : Func} (hg : tb g = some fn) (u : Value) (l : List Value) (w : World) :
    (callMethod (.iface t u) name l.toArray).run P w = .ok (.enter g (u :: l).toArray) w := by
  obtain ⟨n, hn⟩ : ∃ n, P.types.size + Made.depth = n + 1 := ⟨P.types.size + Made.depth - 1, by unfold Made.depth; omega⟩
  simp only [callMethod, Sem.run_bind, run_program, Result.andThen_ok, hn, run_method hm]
  have e : #[u] ++ l.toArray = (u :: l).toArray := by apply Array.ext'; simp
  rw [e]
  exact run_callFunc htb hg _ w
theorem xcall_ok (htb : TbOk P tb) (hcf : CfOk P X ft cf) (hC : C.Is X ft) (h : HRel C st.hp w) (ha : ARel C st a) {o : Oper} {f : Operand} {args : Array Operand} {ats : Array TypeId} (ho : o.op = .call { callee := .value f, args, argTypes := ats }) {K : Act → World → Prop} {Q : Exit → Act → World → Prop} {Φ : Env → SV × Hp → Prop}
    (hx : (xcall P tb cf (xev st.hp.gh.k st.get) f args st.hp).holds Φ C.V) (hK : ∀ C' sv hp' v w', Kp C w C' w' → HRel C' hp' w' → sv.rel C' v → Φ C'.V (sv, hp') → K (a.put o.dst v) w') : o.wp P a w K Q := by
  unfold xcall at hx
  split at hx
  · rename_i g fs cs l hf hl
    split at hx
    · rename_i fn hg
      obtain ⟨us, ws, k1, k2, k3⟩ := ha.ev h.ks _ _ hf
      have hargs := evs_ok (ha.ev h.ks) hl
      have hrun : (execOp a.eval o).run P w = .ok (.enter g (us ++ args.toList.map a.eval ++ ws).toArray) w := by
        have := run_callFunc (P := P) htb hg (us ++ args.toList.map a.eval ++ ws).toArray w
        unfold execOp
        rw [ho]
        simp only [resolve, k3, Deferred.ofValue, Sem.run_bind, Sem.run_pure, Result.andThen_ok, invoke]
        have e : us.toArray ++ Array.map a.eval args ++ ws.toArray = (us ++ args.toList.map a.eval ++ ws).toArray := by
          apply Array.ext'; simp
        rw [e]
        exact this
      unfold Oper.wp
      rw [hrun]
      refine (hcf g _ st.hp C w _ hC h (((ptrs_rel k1).append hargs).append (ptrs_rel k2)) Φ hx).mono ?_
      rintro e w' ⟨C', v, sv, hp', rfl, m1, m2, m3, m4⟩
      exact hK C' sv hp' v w' m3 m2 m1 m4
    · exact hx.elim
  · rename_i t path g p fs cs l hf hl
    split at hx
    · rename_i fn et hg ht
      split at hx
      · rename_i hp0
        have hp0 : path = #[] := by simpa using hp0
        subst hp0
        obtain ⟨us, ws, k1, k2, k3⟩ := ha.ev h.ks _ _ hf
        have hargs := evs_ok (ha.ev h.ks) hl
        cases k1 with
        | @cons _ u _ us q1 q2 =>
        have hrun : (execOp a.eval o).run P w = .ok (.enter g (u :: us ++ args.toList.map a.eval).toArray) w := by
          have := run_callFunc (P := P) htb hg (u :: us ++ args.toList.map a.eval).toArray w
          unfold execOp
          rw [ho]
          simp only [resolve, k3, Deferred.ofValue, Sem.run_bind, Sem.run_pure, Result.andThen_ok, invoke]
          have e : ((u :: us).toArray ++ Array.map a.eval args) = (u :: us ++ args.toList.map a.eval).toArray := by
            apply Array.ext'; simp
          rw [e]
          simp only [List.cons_append, List.getElem?_toArray, List.getElem?_cons_zero, receiverVia, follow, Sem.run_bind, Sem.run_pure, Result.andThen_ok, receiverAt, run_underlying ht, Place.get]
          have e2 : #[u] ++ (u :: (us ++ args.toList.map a.eval)).toArray.extract 1 (u :: (us ++ args.toList.map a.eval)).toArray.size = (u :: (us ++ args.toList.map a.eval)).toArray := by
            apply Array.ext'; simp [List.take_of_length_le]
          rw [e2]
          exact this
        unfold Oper.wp
        rw [hrun]
        refine (hcf g _ st.hp C w _ hC h (All2.cons (show SV.rel C (ptrSV p) u from q1) ((ptrs_rel q2).append hargs)) Φ hx).mono ?_
        rintro e w' ⟨C', v, sv, hp', rfl, m1, m2, m3, m4⟩
        exact hK C' sv hp' v w' m3 m2 m1 m4
      · exact hx.elim
    · exact hx.elim
  · rename_i name t b oo l hf hl
    split at hx
    · rename_i g hm
      split at hx
      · rename_i fn hg
        obtain ⟨gg, c, k1, k2⟩ := ha.ev h.ks _ _ hf
        have hargs := evs_ok (ha.ev h.ks) hl
        have hrun : (execOp a.eval o).run P w = .ok (.enter g (.pointer (some ⟨gg, oo, none⟩) :: args.toList.map a.eval).toArray) w := by
          unfold execOp
          rw [ho]
          simp only [resolve, k2, Deferred.ofValue, Sem.run_bind, Sem.run_pure, Result.andThen_ok, invoke]
          have e : #[Value.iface t (.pointer (some ⟨gg, oo, none⟩))] ++ Array.map a.eval args = (Value.iface t (.pointer (some ⟨gg, oo, none⟩)) :: args.toList.map a.eval).toArray := by
            apply Array.ext'; simp
          rw [e]
          have e2 : (Value.iface t (.pointer (some ⟨gg, oo, none⟩)) :: args.toList.map a.eval).toArray.extract 1 (Value.iface t (.pointer (some ⟨gg, oo, none⟩)) :: args.toList.map a.eval).toArray.size = (args.toList.map a.eval).toArray := by
            apply Array.ext'; simp [List.take_of_length_le]
          simp only [List.getElem?_toArray, List.getElem?_cons_zero, e2]
          exact run_callMethod htb hm hg _ _ w
        unfold Oper.wp
        rw [hrun]
        refine (hcf g _ st.hp C w _ hC h (All2.cons (show SV.rel C (.sc (.ptr b oo)) _ from ⟨gg, c, k1, rfl⟩) hargs) Φ hx).mono ?_
        rintro e w' ⟨C', v, sv, hp', rfl, m1, m2, m3, m4⟩
        exact hK C' sv hp' v w' m3 m2 m1 m4
      · exact hx.elim
    · exact hx.elim
  · exact hx.elim
theorem xinvoke_ok (htb : TbOk P tb) (hcf : CfOk P X ft cf) (hC : C.Is X ft) (h : HRel C st.hp w) (ha : ARel C st a) {o : Oper} {r : Operand} {name : String} {args : Array Operand} {ats : Array TypeId} (ho : o.op = .call { callee := .invoke r name, args, argTypes := ats }) {K : Act → World → Prop} {Q : Exit → Act → World → Prop} {Φ : Env → SV × Hp → Prop}
    (hx : (xinvoke P tb cf (xev st.hp.gh.k st.get) r name args st.hp).holds Φ C.V) (hK : ∀ C' sv hp' v w', Kp C w C' w' → HRel C' hp' w' → sv.rel C' v → Φ C'.V (sv, hp') → K (a.put o.dst v) w') : o.wp P a w K Q := by
  unfold xinvoke at hx
  split at hx
  · rename_i t c l hf hl
    split at hx
    · rename_i g hm
      split at hx
      · rename_i fn hg
        obtain ⟨u, k1, k2⟩ := ha.ev h.ks _ _ hf
        have hargs := evs_ok (ha.ev h.ks) hl
        have hrun : (execOp a.eval o).run P w = .ok (.enter g (u :: args.toList.map a.eval).toArray) w := by
          unfold execOp
          rw [ho]
          simp only [resolve, k2, Sem.run_bind, Sem.run_pure, Result.andThen_ok, invoke]
          have e : #[Value.iface t u] ++ Array.map a.eval args = (Value.iface t u :: args.toList.map a.eval).toArray := by
            apply Array.ext'; simp
          rw [e]
          have e2 : (Value.iface t u :: args.toList.map a.eval).toArray.extract 1 (Value.iface t u :: args.toList.map a.eval).toArray.size = (args.toList.map a.eval).toArray := by
            apply Array.ext'; simp [List.take_of_length_le]
          simp only [List.getElem?_toArray, List.getElem?_cons_zero, e2]
          exact run_callMethod htb hm hg u _ w
        unfold Oper.wp
        rw [hrun]
        refine (hcf g _ st.hp C w _ hC h (All2.cons (show SV.rel C (.sc c) u from k1) hargs) Φ hx).mono ?_
        rintro e w' ⟨C', v, sv, hp', rfl, m1, m2, m3, m4⟩
        exact hK C' sv hp' v w' m3 m2 m1 m4
      · exact hx.elim
    · exact hx.elim
  · exact hx.elim
theorem xoper_ok (htb : TbOk P tb) (hcf : CfOk P X ft cf) (hC : C.Is X ft) (h : HRel C st.hp w) (ha : ARel C st a) {o : Oper} {K : Act → World → Prop} {Q : Exit → Act → World → Prop} {Φ : Env → SV × Hp → Prop}
    (hx : (xoper P tb cf st o).holds Φ C.V) (hK : ∀ C' sv hp' v w', Kp C w C' w' → HRel C' hp' w' → sv.rel C' v → Φ C'.V (sv, hp') → K (a.put o.dst v) w') : o.wp P a w K Q := by
  unfold xoper at hx
  split at hx
  · rename_i sv hp1
    obtain ⟨v, k1, k2⟩ := pop_ok (P := P) h.ks (ha.ev h.ks) o sv hp1
    unfold Oper.wp
    rw [k2 w]
    exact hK C sv st.hp v w (.refl C w) h k1 hx
  · split at hx
    · rename_i f args ats hop
      exact xcall_ok htb hcf hC h ha hop hx hK
    · rename_i r name args ats hop
      exact xinvoke_ok htb hcf hC h ha hop hx hK
    · obtain ⟨C', w', n, v, sv, hp', k1, k2, k3, k4, k5, k6⟩ := xop_ok (P := P) h (ha.ev h.ks) o Φ hx
      unfold Oper.wp
      rw [k1]
      rcases k2 with rfl | ⟨rfl, rfl⟩
      · exact hK C' sv hp' v w' k5 k4 k3 k6
      · exact hK C' sv hp' Go.undef w' k5 k4 k3 k6
theorem St.put_hp (st : St) (d : Option Tmp) (v : SV) (hp : Hp) : (st.put d v hp).hp = hp := by
  unfold St.put
  split
  · cases Nat.blt _ _ <;> rfl
  · rfl
/-- one operation of a region -/
theorem xstep_ok2 (htb : TbOk P tb) (hcf : CfOk P X ft cf) (hC : C.Is X ft) (h : HRel C st.hp w) (ha : ARel C st a) {ops : Array Oper} {o : Oper} {K : Act → World → Prop} {Q : Exit → Act → World → Prop} {Φ : Env → St → Prop}
    (hx : (xstep P tb cf ops st o).holds Φ C.V) (hK : ∀ C' sv hp' v w', Kp C w C' w' → HRel C' hp' w' → ARel C' (st.put o.dst sv hp') (a.put o.dst v) → Φ C'.V (st.put o.dst sv hp') → K (a.put o.dst v) w') :
    if Region.wanted o (yielded ops a.tmps) then o.wp P a w K Q else K (a.put o.dst Go.undef) w := by
  unfold xstep at hx
  split at hx
  · exact hx.elim
  · rename_i e he
    obtain ⟨s, hw⟩ := xwant_ok ha he
    obtain ⟨hpf, hf, _, _, _, _, _, _, hh⟩ := xif_holds h s hx
    simp only [St.putK_eq] at hh
    cases hb : e.tr C.V with
    | true =>
      rw [hw, hb, if_pos rfl]
      have h1 := hh.1 hb
      rw [T.holds_bind] at h1
      refine xoper_ok (st := ⟨st.sz, st.tmps, hpf⟩) htb hcf hC hf (ha.hp _) h1 fun C' sv hp' v w' k1 k2 k3 k4 => ?_
      exact hK C' sv hp' v w' k1 k2 ((ha.le k1.le).put k3 o.dst hp') k4
    | false =>
      rw [hw, hb, if_neg (by decide)]
      exact hK C _ _ _ w (.refl C w) hf (ha.put (SV.rel_undef C) o.dst hpf) (hh.2 hb)
theorem xstep_ok (htb : TbOk P tb) (hcf : CfOk P X ft cf) (hC : C.Is X ft) (h : HRel C st.hp w) (ha : ARel C st a) {ops : Array Oper} {o : Oper} {K : Act → World → Prop} {Q : Exit → Act → World → Prop} {Φ : Env → St → Prop}
    (hx : (xstep P tb cf ops st o).holds Φ C.V) (hK : ∀ C' st' a' w', Kp C w C' w' → HRel C' st'.hp w' → ARel C' st' a' → Φ C'.V st' → K a' w') :
    if Region.wanted o (yielded ops a.tmps) then o.wp P a w K Q else K (a.put o.dst Go.undef) w :=
  xstep_ok2 htb hcf hC h ha hx fun C' sv hp' v w' k1 k2 k3 k4 => hK C' _ _ w' k1 (by rw [St.put_hp]; exact k2) k3 k4
theorem xlist_ok (htb : TbOk P tb) (hcf : CfOk P X ft cf) {ops : Array Oper} {Q : Exit → Act → World → Prop} {Φ : Env → St → Prop} : ∀ (l : List Oper) {C : Ctx} {w : World} {st : St} {a : Act}, C.Is X ft → HRel C st.hp w → ARel C st a →
    (xlist P tb cf ops l st).holds Φ C.V → (∀ C' st' a' w', Kp C w C' w' → HRel C' st'.hp w' → ARel C' st' a' → Φ C'.V st' → Q .normal a' w') → wpList P ops Q l a w
  | [], C, w, st, a, hC, h, ha, hx, hK => hK C st a w (.refl C w) h ha hx
  | o :: rest, C, w, st, a, hC, h, ha, hx, hK => by
    unfold xlist at hx
    rw [T.holds_bind] at hx
    refine wpList_step fun K hKK => ?_
    refine xstep_ok htb hcf hC h ha hx fun C' st' a' w' k1 k2 k3 k4 => hKK _ _ ?_
    exact xlist_ok htb hcf rest (hC.le k1.le) k2 k3 k4 fun C2 st2 a2 w2 m1 m2 m3 m4 => hK C2 st2 a2 w2 (k1.trans m1) m2 m3 m4
end
/-! ### a part of a region that only looks -/
def pload (P : Program) (t : TypeId) (a : SV) (hs : Hs) : Option SV := (ploadA P t a hs).map .pv
def pstill (P : Program) (ev : Operand → Option SV) (hp : Hp) (op : Op) : Option SV :=
  match pop P hp.gh.k ev op with
  | some v => some v
  | none =>
    match op with
    | .load t a => o1 (ev a) fun a => pload P t a hp.H
    | _ => none
def stillCount : List Oper → Nat
  | [] => 0
  | o :: rest => if stillKind o.op then stillCount rest + 1 else 0
def xstill (P : Program) (ops : Array Oper) : List Oper → St → T St
  | [], st => .ret st
  | o :: rest, st =>
    match xwant ops st o with
    | none => .bad "guard"
    | some e => xif e st.hp (fun hp => match pstill P (xev hp.gh.k st.get) hp o.op with
        | some sv => st.putK o.dst sv hp fun st => xstill P ops rest st
        | none => .bad (opName o.op)) (fun hp => st.putK o.dst SV.undef hp fun st => xstill P ops rest st)
section
variable {P : Program} {C : Ctx} {w : World} {st : St} {a : Act}
theorem pstill_ok (h : HRel C st.hp w) {ev : Operand → Option SV} {ρ : Operand → Value} (he : EvOk C ev ρ) {o : Oper} {sv : SV} (hs : pstill P ev st.hp o.op = some sv) : ∃ v, sv.rel C v ∧ (execOp ρ o).run P w = .ok (.value v) w := by
  unfold pstill at hs
  split at hs
  · rename_i v hv
    cases hs
    obtain ⟨u, k1, k2⟩ := pop_ok (P := P) h.ks he o _ hv
    exact ⟨u, k1, k2 w⟩
  · split at hs
    · rename_i t ad hop
      cases hv : ev ad with
      | none => rw [hv] at hs; cases hs
      | some sa =>
        rw [hv] at hs
        simp only [o1, pload] at hs
        obtain ⟨p, hp1, rfl⟩ := Option.map_eq_some_iff.1 hs
        obtain ⟨u, q1, q2⟩ := ploadA_ok (P := P) h (he _ _ hv) hp1
        refine ⟨u, q1, ?_⟩
        unfold execOp
        rw [hop]
        simp only [Sem.run_bind, Sem.run_pure, Result.andThen_ok, q2]
    · cases hs
theorem xstill_ok {ops : Array Oper} {K : Act → Prop} {Φ : Env → St → Prop} : ∀ (l : List Oper) {st : St} {a : Act}, HRel C st.hp w → ARel C st a → (xstill P ops l st).holds Φ C.V →
    (∀ st' a', HRel C st'.hp w → ARel C st' a' → Φ C.V st' → K a') → wpStill P ops w K l a
  | [], st, a, h, ha, hx, hK => hK st a h ha hx
  | o :: rest, st, a, h, ha, hx, hK => by
    unfold xstill at hx
    split at hx
    · exact hx.elim
    · rename_i e he
      obtain ⟨s, hw⟩ := xwant_ok ha he
      obtain ⟨hpf, hf, _, _, _, _, _, _, hh⟩ := xif_holds h s hx
      simp only [St.putK_eq] at hh
      unfold wpStill
      cases hb : e.tr C.V with
      | true =>
        rw [hw, hb, if_pos rfl]
        have h1 := hh.1 hb
        split at h1
        · rename_i sv hs
          obtain ⟨v, k1, k2⟩ := pstill_ok (st := ⟨st.sz, st.tmps, hpf⟩) (P := P) hf (ha.ev hf.ks) hs
          unfold Oper.still
          rw [k2]
          exact ⟨rfl, xstill_ok rest (by rw [St.put_hp]; exact hf) (ha.put k1 o.dst hpf) h1 hK⟩
        · exact h1.elim
      | false =>
        rw [hw, hb, if_neg (by decide)]
        exact xstill_ok rest (by rw [St.put_hp]; exact hf) (ha.put (SV.rel_undef C) o.dst hpf) (hh.2 hb) hK
end
/-! ### orders that come to the same -/
def T.flat {α : Type} [DecidableEq α] : T α → T α
  | .both t e =>
    match t.flat, e.flat with
    | .ret x, .ret y => if x = y then .ret x else .both (.ret x) (.ret y)
    | t', e' => .both t' e'
  | .ite c t e => .ite c t.flat e.flat
  | .lets f as s n t => .lets f as s n t.flat
  | .ret a => .ret a
  | .bad w => .bad w
  | .skip => .skip
theorem T.flat_holds {α : Type} [DecidableEq α] {Φ : Env → α → Prop} : ∀ {t : T α} {V : Env}, t.flat.holds Φ V → t.holds Φ V
  | .ret a, V, h => h
  | .bad w, V, h => h
  | .skip, V, h => h
  | .ite c t e, V, h => ⟨fun hc => T.flat_holds (h.1 hc), fun hc => T.flat_holds (h.2 hc)⟩
  | .lets f as s n t, V, h => T.flat_holds (t := t) h
  | .both t e, V, h => by
    have key : ∀ t' e' : T α, t' = t.flat → e' = e.flat → (T.both t' e').holds Φ V → (T.both t e).holds Φ V := fun t' e' h1 h2 hh => by
      subst h1; subst h2
      exact ⟨T.flat_holds hh.1, T.flat_holds hh.2⟩
    simp only [T.flat] at h
    split at h
    · rename_i x y hx hy
      split at h
      · rename_i e; subst e; exact key _ _ hx.symm hy.symm ⟨h, h⟩
      · exact key _ _ hx.symm hy.symm h
    · exact key _ _ rfl rfl h
/-! ### regions whose order is open -/
def T.boths {α : Type} : List (T α) → T α
  | [] => .bad "none"
  | [t] => t
  | t :: ts => .both t (T.boths ts)
theorem T.boths_mem {α : Type} {Φ : Env → α → Prop} {V : Env} : ∀ {l : List (T α)}, (T.boths l).holds Φ V → ∀ t ∈ l, t.holds Φ V
  | [], h, _, _ => h.elim
  | [t], h, u, hu => by simp only [List.mem_singleton] at hu; subst hu; exact h
  | t :: t2 :: ts, h, u, hu => by
    rcases List.mem_cons.1 hu with rfl | hu
    · exact h.1
    · exact T.boths_mem h.2 u hu
/-- each operation has numbers of its own -/
def Hp.split (hp : Hp) (k s : Nat) : Hp :=
  { hp with nx := hp.nx + k * s, rest := (List.range k).map (fun j => (hp.nx + j * s, hp.nx + (j + 1) * s)) ++ hp.rest }
def Hp.enter (hp : Hp) (r : Nat × Nat) : Hp := { hp with nx := r.1, lim := r.2, rest := (hp.nx, hp.lim) :: hp.rest.erase r }
def St.leave (st : St) (nx lim : Nat) (rest : List (Nat × Nat)) : T St :=
  if st.hp.rest = (nx, lim) :: rest then .ret ⟨st.sz, st.tmps, { st.hp with nx := nx, lim := lim, rest := rest }⟩ else .bad "numbers"

theorem ptrRel.fn {C : Ctx} {p : Nat × Nat} {v v' : Value} (h : ptrRel C p v) (h' : ptrRel C p v') : v = v' := by
  obtain ⟨g, c, h1, rfl⟩ := h
  obtain ⟨g', c', h1', rfl⟩ := h'
  rw [h1] at h1'; cases h1'; rfl
theorem All2.fn {α β : Type} {R : α → β → Prop} (hR : ∀ a b b', R a b → R a b' → b = b') {l : List α} {m m' : List β} (h : All2 R l m) (h' : All2 R l m') : m = m' := by
  induction h generalizing m' with
  | nil => cases h'; rfl
  | cons a b ih =>
    cases h' with
    | cons a' b' =>
      have e1 := hR _ _ _ a a'
      have e2 := ih b'
      subst e1; subst e2; rfl
theorem SC.rel.fn {C : Ctx} : ∀ {c : SC} {v v' : Value}, c.rel C v → c.rel C v' → v = v'
  | .int k e, v, v', ⟨_, h⟩, ⟨_, h'⟩ => h.trans h'.symm
  | .bool e, v, v', ⟨_, h⟩, ⟨_, h'⟩ => h.trans h'.symm
  | .str s, v, v', h, h' => Eq.trans (show v = _ from h) (Eq.symm (show v' = _ from h'))
  | .ptr b o, v, v', h, h' => ptrRel.fn (p := (b, o)) h h'
  | .px b o n e, v, v', ⟨_, _, _, g, c, h1, h2⟩, ⟨_, _, _, g', c', h1', h2'⟩ => by rw [h1] at h1'; cases h1'; exact h2.trans h2'.symm
  | .nilp, v, v', h, h' => Eq.trans (show v = _ from h) (Eq.symm (show v' = _ from h'))
  | .slice b o len cap el, v, v', ⟨g, c, h1, h2, _⟩, ⟨g', c', h1', h2', _⟩ => by rw [h1] at h1'; cases h1'; exact h2.trans h2'.symm
  | .nils, v, v', h, h' => Eq.trans (show v = _ from h) (Eq.symm (show v' = _ from h'))
  | .map b, v, v', ⟨g, c, h1, h2⟩, ⟨g', c', h1', h2'⟩ => by rw [h1] at h1'; cases h1'; exact h2.trans h2'.symm
  | .nilm, v, v', h, h' => Eq.trans (show v = _ from h) (Eq.symm (show v' = _ from h'))
  | .fn f fs cs, v, v', ⟨vs, ws, h1, h2, h3⟩, ⟨vs', ws', h1', h2', h3'⟩ => by
    have e1 := All2.fn (R := ptrRel C) (fun _ _ _ => ptrRel.fn) h1 h1'
    have e2 := All2.fn (R := ptrRel C) (fun _ _ _ => ptrRel.fn) h2 h2'
    subst e1; subst e2; exact h3.trans h3'.symm
  | .mth name t b o, v, v', ⟨g, c, h1, h2⟩, ⟨g', c', h1', h2'⟩ => by rw [h1] at h1'; cases h1'; exact h2.trans h2'.symm
  | .nilFunc, v, v', h, h' => Eq.trans (show v = _ from h) (Eq.symm (show v' = _ from h'))
  | .iface t c, v, v', ⟨u, h1, h2⟩, ⟨u', h1', h2'⟩ => by rw [h2, h2', SC.rel.fn h1 h1']
  | .nilIface, v, v', h, h' => Eq.trans (show v = _ from h) (Eq.symm (show v' = _ from h'))
  | .ext i, v, v', ⟨_, h, _⟩, ⟨_, h', _⟩ => h.trans h'.symm
  | .xs i n, v, v', ⟨_, h, _⟩, ⟨_, h', _⟩ => h.trans h'.symm
  | .epx e, v, v', ⟨_, h⟩, ⟨_, h'⟩ => h.trans h'.symm
  | .undef, v, v', h, h' => Eq.trans (show v = _ from h) (Eq.symm (show v' = _ from h'))
theorem PV.rel.fn {C : Ctx} : ∀ {p : PV} {v v' : Value}, p.rel C v → p.rel C v' → v = v'
  | .one c, v, v', h, h' => SC.rel.fn (c := c) h h'
  | .agg cs, v, v', ⟨vs, h1, h2⟩, ⟨vs', h1', h2'⟩ => by
    have e1 := All2.fn (R := SC.rel C) (fun _ _ _ => SC.rel.fn) h1 h1'
    subst e1; exact h2.trans h2'.symm
theorem SV.rel.fn {C : Ctx} : ∀ {p : SV} {v v' : Value}, p ≠ .any → p.rel C v → p.rel C v' → v = v'
  | .any, v, v', hn, h, h' => absurd rfl hn
  | .pv c, v, v', _, h, h' => PV.rel.fn (p := c) h h'
  | .tup cs, v, v', _, ⟨vs, h1, h2⟩, ⟨vs', h1', h2'⟩ => by
    have e1 := All2.fn (R := PV.rel C) (fun _ _ _ => PV.rel.fn) h1 h1'
    subst e1; exact h2.trans h2'.symm
/-- a load that was taken first -/
inductive HK where
  | ld (T : TypeId) (ad : SV)
  | cm (op : BinOp) (T : TypeId) (x y : SV)
structure Hd where
  i : Nat
  K : HK
  sv : SV
/-- are two pointers the same? -/
def pcmp (P : Program) (op : BinOp) (t : TypeId) (x y : SV) (hs : Hs) : Option SV :=
  match x, y with
  | .pv (.one (.ptr b o)), .pv (.one (.ptr b' o')) =>
    match op, xeqC P hs t (.ptr b o) (.ptr b' o') with
    | .eql, some e => some (.sc (.bool e))
    | .neq, some e => some (.sc (.bool (mkNo e)))
    | _, _ => none
  | _, _ => none
def plook (P : Program) (hs : Hs) : HK → Option SV
  | .ld T ad => pload P T ad hs
  | .cm op T x y => pcmp P op T x y hs
def heldStep (P : Program) (ops : Array Oper) (j : Nat) (ld : Bool) (hs : Hs) : List Hd → Option (List Hd)
  | [] => some []
  | q :: rest => bif (ld && befBit .any ops j q.i) then heldStep P ops j ld hs rest else
    match plook P hs q.K with
    | some sv => bif svSame sv q.sv then (heldStep P ops j ld hs rest).map (q :: ·) else none
    | none => none
/-- slots that are not known any more -/
def St.blur (st : St) (W : List Nat) : St := W.foldl (fun st d => st.put (some d) .any st.hp) st
def St.blurK {β : Type} (k : St → β) : List Nat → St → β
  | [], st => k st
  | d :: W, st => st.putK (some d) .any st.hp fun st => St.blurK k W st
theorem St.blurK_eq {β : Type} (k : St → β) : ∀ (W : List Nat) (st : St), St.blurK k W st = k (st.blur W)
  | [], st => rfl
  | d :: W, st => by rw [St.blurK, St.putK_eq, St.blurK_eq]; rfl
/-- an operation's own numbers -/
def St.into (sp : Option (Nat × Nat)) (i : Nat) (st : St) : Option St :=
  match sp with
  | none => some st
  | some (nx, s) => if (nx + i * s, nx + (i + 1) * s) ∈ st.hp.rest then some ⟨st.sz, st.tmps, st.hp.enter (nx + i * s, nx + (i + 1) * s)⟩ else none
def St.outof (sp : Option (Nat × Nat)) (i : Nat) (st st' : St) : T St :=
  match sp with
  | none => .ret st'
  | some (nx, s) => st'.leave st.hp.nx st.hp.lim (st.hp.rest.erase (nx + i * s, nx + (i + 1) * s))
def xone (P : Program) (tb : Tb) (cf : Cf) (ops : Array Oper) (sp : Option (Nat × Nat)) (i : Nat) (held : List Hd) (st : St) (k : List Hd → St → T St) : T St :=
  match ops[i]? with
  | some o => match st.into sp i with
    | some st1 => (xstep P tb cf ops st1 o).bind fun st' => (St.outof sp i st st').bind fun st'' => match heldStep P ops i (!stillKind o.op) st''.hp.H held with
      | some held => k held st''
      | none => .bad "held"
    | none => .bad "numbers"
  | none => .bad "order"
def pendOk (P : Program) (ops : Array Oper) (sz : Nat) (ps : List Nat) : Bool :=
  ps.all fun p => match ops[p]? with
    | some o => match allocOf o with
      | some (t, d) => (xzero P t).isSome && Nat.blt d sz
      | none => true
    | none => false
def xanyG (P : Program) (tb : Tb) (cf : Cf) (ops : Array Oper) (sp : Option (Nat × Nat)) : Nat → Nat → List Hd → St → T St
  | 0, m, held, st => match xnext .any ops m with
    | .done => .ret st
    | _ => .bad "order"
  | n + 1, m, held, st =>
    match xnext .any ops m with
    | .done => .ret st
    | .first i => natK i fun i => match ops[i]? with
      | none => .bad "order"
      | some o => match xwant ops st o with
        | none => .bad "guard"
        | some e => xif e st.hp (fun hp => match pop P hp.gh.k (xev hp.gh.k st.get) o.op with
            | some sv => st.putK o.dst sv hp fun st => natK (m ||| (1 <<< i)) fun m => xanyG P tb cf ops sp n m held st
            | none => match o.op with
              | .load t a => match xev hp.gh.k st.get a with
                | some ad => match pload P t ad st.hp.H with
                  | some sv => svK sv fun sv => st.putK o.dst sv hp fun st => natK (m ||| (1 <<< i)) fun m => xanyG P tb cf ops sp n m (⟨i, .ld t ad, sv⟩ :: held) st
                  | none => .bad "load"
                | none => .bad "load where"
              | .binOp bo t x y _ => match xev hp.gh.k st.get x, xev hp.gh.k st.get y with
                | some u, some v => match pcmp P bo t u v st.hp.H with
                  | some sv => svK sv fun sv => st.putK o.dst sv hp fun st => natK (m ||| (1 <<< i)) fun m => xanyG P tb cf ops sp n m (⟨i, .cm bo t u v, sv⟩ :: held) st
                  | none => .bad "binOp"
                | _, _ => .bad "binOp of what"
              | op => .bad (opName op)) (fun hp => st.putK o.dst SV.undef hp fun st => natK (m ||| (1 <<< i)) fun m => xanyG P tb cf ops sp n m held st)
    | .all rs => match xpick .any ops rs with
      | some j => natK j fun j => bif pendOk P ops st.sz (pendL ops rs j) then
          St.blurK (fun st => xone P tb cf ops sp j held st fun held st => natK (m ||| (1 <<< j)) fun m => xanyG P tb cf ops sp n m held st) (pendD ops rs j) st
        else .bad "alloc"
      | none => T.boths (rs.map fun i => natK i fun i => xone P tb cf ops sp i held st fun held st => natK (m ||| (1 <<< i)) fun m => xanyG P tb cf ops sp n m held st)
section
variable {P : Program} {X : Ext} {ft : Ft} {tb : Tb} {cf : Cf} {C : Ctx} {w : World} {st : St} {a : Act}
theorem HRel.sub {hp hp' : Hp} (h : HRel C hp w) (hH : hp'.H = hp.H) (hf : ∀ b, hp'.isFree b → hp.isFree b) (hg : hp'.gh = hp.gh := by rfl) : HRel C hp' w :=
  ⟨⟨fun b blk hb => h.at_ b blk (hH ▸ hb), fun b b' blk blk' g c c' hb hb' => h.inj b b' blk blk' g c c' (hH ▸ hb) (hH ▸ hb')⟩, hg ▸ h.ext, fun b blk g c hb hg => h.apart b blk g c (hH ▸ hb) hg, fun b blk g c hb hit hg => h.own b blk g c (hH ▸ hb) hit hg, fun b hb => h.free b (hf b hb), h.blt⟩
theorem HRel.split {hp : Hp} (h : HRel C hp w) (k s : Nat) (hs : k * s ≤ hp.lim - hp.nx) : HRel C (hp.split k s) w := by
  refine h.sub rfl fun b hb => ?_
  rcases hb with ⟨h1, h2⟩ | ⟨r, hr, h1, h2⟩
  · simp only [Hp.split] at h1 h2; exact .inl ⟨by omega, h2⟩
  · simp only [Hp.split, List.mem_append, List.mem_map, List.mem_range] at hr
    rcases hr with ⟨j, hj, rfl⟩ | hr
    · simp only at h1 h2
      have : (j + 1) * s ≤ k * s := Nat.mul_le_mul_right _ hj
      exact .inl ⟨by omega, by omega⟩
    · exact .inr ⟨r, hr, h1, h2⟩
theorem HRel.enter {hp : Hp} (h : HRel C hp w) {r : Nat × Nat} (hr : r ∈ hp.rest) : HRel C (hp.enter r) w := by
  refine h.sub rfl fun b hb => ?_
  rcases hb with ⟨h1, h2⟩ | ⟨q, hq, h1, h2⟩
  · exact .inr ⟨r, hr, h1, h2⟩
  · simp only [Hp.enter, List.mem_cons] at hq
    rcases hq with rfl | hq
    · exact .inl ⟨h1, h2⟩
    · exact .inr ⟨q, List.mem_of_mem_erase hq, h1, h2⟩
theorem leave_ok {nx lim : Nat} {rest : List (Nat × Nat)} {Φ : Env → St → Prop} (h : HRel C st.hp w) (ha : ARel C st a) (hx : (st.leave nx lim rest).holds Φ C.V) : ∃ st', HRel C st'.hp w ∧ ARel C st' a ∧ Φ C.V st' := by
  unfold St.leave at hx
  split at hx
  · rename_i e
    refine ⟨⟨st.sz, st.tmps, { st.hp with nx := nx, lim := lim, rest := rest }⟩, h.sub rfl fun b hb => ?_, ha.hp _, hx⟩
    rcases hb with ⟨h1, h2⟩ | ⟨q, hq, h1, h2⟩
    · exact .inr ⟨(nx, lim), by rw [e]; simp, h1, h2⟩
    · exact .inr ⟨q, by rw [e]; simp only at hq; simp [hq], h1, h2⟩
  · exact hx.elim

def HeldRel (P : Program) (C : Ctx) (hp : Hp) (held : List Hd) (L : List (Nat × (World → Prop))) : Prop :=
  ∀ q ∈ L, ∃ h ∈ held, h.i = q.1 ∧ plook P hp.H h.K = some h.sv ∧ ∀ C' hp' w', C.le C' → HRel C' hp' w' → plook P hp'.H h.K = some h.sv → q.2 w'
theorem HeldRel.of {P : Program} {C : Ctx} {hp hp' : Hp} {held : List Hd} {L : List (Nat × (World → Prop))} (e : hp'.H = hp.H) (h : HeldRel P C hp held L) : HeldRel P C hp' held L := by
  unfold HeldRel at *
  rw [e]
  exact h
theorem heldStep_ok {ops : Array Oper} {j : Nat} {ld : Bool} {hs : Hs} : ∀ {held held' : List Hd}, heldStep P ops j ld hs held = some held' → ∀ h ∈ held, ((ld && befBit .any ops j h.i) = true) ∨ (h ∈ held' ∧ plook P hs h.K = some h.sv)
  | [], _, _, h, hh => nomatch hh
  | q :: rest, held', hx, h, hh => by
    unfold heldStep at hx
    cases hb : (ld && befBit .any ops j q.i) with
    | true =>
      rw [hb, cond_true] at hx
      rcases List.mem_cons.1 hh with rfl | hh
      · exact .inl hb
      · exact heldStep_ok hx h hh
    | false =>
      rw [hb, cond_false] at hx
      split at hx
      · rename_i sv hs'
        cases hsame : svSame sv q.sv with
        | true =>
          rw [hsame, cond_true] at hx
          have e := svSame_ok hsame
          obtain ⟨l, h1, rfl⟩ := Option.map_eq_some_iff.1 hx
          rcases List.mem_cons.1 hh with rfl | hh
          · exact .inr ⟨List.mem_cons_self, by rw [hs', e]⟩
          · rcases heldStep_ok h1 h hh with k | ⟨k1, k2⟩
            · exact .inl k
            · exact .inr ⟨List.mem_cons_of_mem _ k1, k2⟩
        | false => rw [hsame, cond_false] at hx; cases hx
      · cases hx
theorem pload_any {t : TypeId} {ad sv : SV} {hs : Hs} (h : pload P t ad hs = some sv) : sv ≠ .any := by
  obtain ⟨p, _, rfl⟩ := Option.map_eq_some_iff.1 h
  exact SV.noConfusion
theorem pload_ok {t : TypeId} {ad : SV} {sv : SV} {o : Oper} {x : Operand} {ρ : Operand → Value} (hop : o.op = .load t x) {hp : Hp} (h : HRel C hp w) (he : ad.rel C (ρ x)) (hs : pload P t ad hp.H = some sv) : ∃ v, sv.rel C v ∧ (execOp ρ o).run P w = .ok (.value v) w := by
  obtain ⟨p, hp1, rfl⟩ := Option.map_eq_some_iff.1 hs
  obtain ⟨u, q1, q2⟩ := ploadA_ok (P := P) h he hp1
  refine ⟨u, q1, ?_⟩
  unfold execOp
  rw [hop]
  simp only [Sem.run_bind, Sem.run_pure, Result.andThen_ok, q2]
theorem pcmp_any {op : BinOp} {t : TypeId} {x y sv : SV} {hs : Hs} (h : pcmp P op t x y hs = some sv) : sv ≠ .any := by
  unfold pcmp at h
  split at h
  · split at h <;> first | (cases h; exact SV.noConfusion) | cases h
  · cases h
theorem pcmp_ok {op : BinOp} {t : TypeId} {xo yo : Operand} {ty : Option TypeId} {x y sv : SV} {o : Oper} {ρ : Operand → Value} (hop : ∃ ty, o.op = .binOp op t xo yo ty) {hp : Hp} (h : HRel C hp w) (hu : x.rel C (ρ xo)) (hv : y.rel C (ρ yo)) (hs : pcmp P op t x y hp.H = some sv) : ∃ v, sv.rel C v ∧ (execOp ρ o).run P w = .ok (.value v) w := by
  obtain ⟨ty, hop⟩ := hop
  unfold pcmp at hs
  split at hs
  · rename_i b oo b' oo'
    have hnum : numV (ρ xo) = false ∨ numV (ρ yo) = false := by
      obtain ⟨g, c, _, e⟩ := hu
      rw [e]; exact .inl rfl
    have hg : (eqGuard op t xo yo (ρ xo) (ρ yo)).run P w = .ok () w := eqGuard_pv (p := .one (.ptr b oo)) (q := .one (.ptr b' oo')) hu hv (fun i e => by cases e) (fun i e => by cases e) (by simp [isNilI, isAggV])
    split at hs
    · rename_i e he
      cases hs
      have kk := xeqC_ok (w := w) h.toHCore he hu hv 9999
      refine ⟨.bool (e.tr C.V), ⟨kk.1, rfl⟩, ?_⟩
      unfold execOp
      rw [hop]
      simp only [Sem.run_bind, hg, Result.andThen_ok, (binOp_eq hnum).1, Op.equal, Op.maxDepth, kk.2, Sem.run_pure]
    · rename_i e he
      cases hs
      have kk := xeqC_ok (w := w) h.toHCore he hu hv 9999
      obtain ⟨n1, n2⟩ := mkNo_ok kk.1
      refine ⟨.bool (!(e.tr C.V)), ⟨n1, by rw [n2]⟩, ?_⟩
      unfold execOp
      rw [hop]
      simp only [Sem.run_bind, hg, Result.andThen_ok, (binOp_eq hnum).2, Op.equal, Op.maxDepth, kk.2, Sem.run_pure]
    · cases hs
  · cases hs
/-- behind an operation that was carried out -/
theorem held_next {ops : Array Oper} {L : List (Nat × (World → Prop))} {hp : Hp} {C' : Ctx} {hp' : Hp} {w' : World} {held held' : List Hd} {i : Nat} {o : Oper} {lst : Array Bool} (ho : ops[i]? = some o) (hl0 : lst.getD i false = true) (hH : HeldRel P C hp held L) (hC : C.le C') (h : HRel C' hp' w')
    (hx : heldStep P ops i (!stillKind o.op) hp'.H held = some held') : ∃ L', HeldRel P C' hp' held' L' ∧ SL .any ops L' lst w' ∧
      (∀ listed w, (∀ k, lst.getD k false = true → listed.getD k false = true) → SL .any ops L' listed w → SL .any ops L listed w) := by
  refine ⟨L.filter fun q => !((!stillKind o.op) && befBit .any ops i q.1), fun q hq => ?_, fun q hq => ?_, fun listed w2 hl hS q hq => ?_⟩
  · obtain ⟨q1, q2⟩ := List.mem_filter.1 hq
    obtain ⟨h0, k1, k2, _, k3⟩ := hH q q1
    rcases heldStep_ok hx h0 k1 with k | ⟨k, k4⟩
    · rw [k2] at k; rw [k] at q2; cases q2
    · exact ⟨h0, k, k2, k4, fun C2 hp2 w2 l1 l2 l3 => k3 C2 hp2 w2 (hC.trans l1) l2 l3⟩
  · obtain ⟨q1, q2⟩ := List.mem_filter.1 hq
    obtain ⟨h0, k1, k2, _, k3⟩ := hH q q1
    rcases heldStep_ok hx h0 k1 with k | ⟨_, k⟩
    · rw [k2] at k; rw [k] at q2; cases q2
    · exact .inr (k3 C' hp' w' hC h k)
  · cases hb : ((!stillKind o.op) && befBit .any ops i q.1) with
    | false => exact hS q (List.mem_filter.2 ⟨hq, by rw [hb]; rfl⟩)
    | true =>
      simp only [Bool.and_eq_true, Bool.not_eq_true'] at hb
      exact .inl ⟨i, fun o' ho' => by rw [ho] at ho'; cases ho'; exact hb.1, befBit_ok hb.2, hl i hl0⟩
theorem Ctx.le.trans' {C C' C'' : Ctx} (h : C.le C') (k : C'.le C'') : C.le C'' := h.trans k
theorem ARel.blur (W : List Nat) : ∀ {st : St}, ARel C st a → ARel C (st.blur W) a := by
  induction W with
  | nil => intro st h; exact h
  | cons d W ih =>
    intro st h
    refine ih (st := st.put (some d) .any st.hp) ⟨by rw [St.put_sz]; exact h.sz, by rw [St.put_sz]; exact h.most, fun n => ?_, h.defers⟩
    rw [put_get h.most]
    split
    · trivial
    · exact h.rel n
theorem St.blur_hp (W : List Nat) : ∀ (st : St), (st.blur W).hp = st.hp := by
  induction W with
  | nil => intro st; rfl
  | cons d W ih => intro st; exact (ih _).trans (St.put_hp _ _ _ _)
theorem St.blur_sz (W : List Nat) : ∀ (st : St), (st.blur W).sz = st.sz := by
  induction W with
  | nil => intro st; rfl
  | cons d W ih => intro st; exact (ih _).trans (St.put_sz _ _ _ _)
theorem St.blur_any (W : List Nat) : ∀ {st : St} {d : Nat}, st.sz ≤ 1024 → ((st.get d = .any) ∨ d ∈ W) → d < st.sz → (st.blur W).get d = .any := by
  induction W with
  | nil => intro st d _ h _; exact h.elim id fun h => nomatch h
  | cons e W ih =>
    intro st d hm h hd
    refine ih (st := st.put (some e) .any st.hp) (by rw [St.put_sz]; exact hm) ?_ (by rw [St.put_sz]; exact hd)
    rw [put_get hm]
    by_cases c : d = e ∧ e < st.sz
    · rw [if_pos c]; exact .inl rfl
    · rw [if_neg c]
      rcases h with h | h
      · exact .inl h
      · rcases List.mem_cons.1 h with rfl | h
        · exact absurd ⟨rfl, hd⟩ c
        · exact .inr h
theorem into_ok {sp : Option (Nat × Nat)} {i : Nat} {st1 : St} (h : HRel C st.hp w) (hi : st.into sp i = some st1) : HRel C st1.hp w ∧ ∃ hp, st1 = ⟨st.sz, st.tmps, hp⟩ ∧ hp.H = st.hp.H := by
  unfold St.into at hi
  split at hi
  · cases hi; exact ⟨h, st.hp, rfl, rfl⟩
  · split at hi
    · rename_i hr
      cases hi
      exact ⟨h.enter hr, _, rfl, rfl⟩
    · cases hi
theorem outof_ok {sp : Option (Nat × Nat)} {i : Nat} {st st' : St} {Φ : Env → St → Prop} (h : HRel C st'.hp w) (hx : (St.outof sp i st st').holds Φ C.V) : ∃ hp, HRel C hp w ∧ Φ C.V ⟨st'.sz, st'.tmps, hp⟩ := by
  unfold St.outof at hx
  split at hx
  · exact ⟨st'.hp, h, hx⟩
  · unfold St.leave at hx
    split at hx
    · rename_i nx s e
      refine ⟨{ st'.hp with nx := st.hp.nx, lim := st.hp.lim, rest := st.hp.rest.erase (nx + i * s, nx + (i + 1) * s) }, h.sub rfl fun b hb => ?_, hx⟩
      rcases hb with ⟨h1, h2⟩ | ⟨q, hq, h1, h2⟩
      · exact .inr ⟨(st.hp.nx, st.hp.lim), by rw [e]; simp, h1, h2⟩
      · exact .inr ⟨q, by rw [e]; simp only at hq; simp [hq], h1, h2⟩
    · exact hx.elim
/-- a new variable is made -/
theorem xstep_alloc {ops : Array Oper} {o : Oper} {t : TypeId} {d : Nat} (hal : allocOf o = some (t, d)) {Φ : Env → St → Prop} {V : Env} (hx : (xstep P tb cf ops st o).holds Φ V) :
    st.hp.can = true ∧ ∃ pz, xzero P t = some pz ∧ pz.cells.all SC.ok = true ∧ Φ V (st.put (some d) (.sc (.ptr st.hp.nx 0)) { st.hp with H := hput st.hp.H st.hp.nx (.cells pz.cells t 0 false), nx := st.hp.nx + 1 }) := by
  obtain ⟨h1, h2, h3⟩ := allocOf_ok hal
  unfold xstep xwant at hx
  rw [h2] at hx
  simp only [xif, E.known, T.holds_bind, St.putK_eq, h3] at hx
  unfold xoper at hx
  rw [h1] at hx
  simp only [pop, xop, xalloc] at hx
  split at hx
  · rename_i pz hz
    unfold xnew at hx
    split at hx
    · rename_i hc
      rw [scsK_eq, natK_eq, hputK_eq, natK_eq] at hx
      exact ⟨hc.1, pz, hz, hc.2, hx⟩
    · exact hx.elim
  · exact hx.elim
theorem HRel.adopt {C : Ctx} {hp : Hp} {w : World} (h : HRel C hp w) {g c : Nat} {blk : Blk} {o : Obj} (hcan : hp.can = true) (hgo : w.heap[g]? = some o) (hb : blk.rel (C.add hp.nx g c) c (some o)) (hgS : ¬ C.S g) (hbl : ∀ b c', C.bl b ≠ some (g, c')) :
    HRel (C.add hp.nx g c) { hp with H := hput hp.H hp.nx blk, nx := hp.nx + 1 } w := by
  have hn := (h.free hp.nx (Hp.can_free hcan)).1
  obtain ⟨n, hnn⟩ : ∃ n, n = hp.nx := ⟨_, rfl⟩
  have hcn := @Hp.can_next hp hcan
  rw [← hnn] at hn hb hcn ⊢
  have hle := Ctx.le_add (g := g) (c := c) hn
  refine ⟨⟨fun b x hx => ?_, fun b b' x x' g1 c1 c2 hx hx' hg hg' => ?_⟩, (h.ext.keep (Nat.le_refl _) (fun k hk => rfl)).mono hle.bl, fun b x g1 c1 hx hb1 => ?_, fun b x g1 c1 hx hit hb1 => ?_, fun b hb1 => ?_, fun b g1 c1 hb1 => ?_⟩
  · rcases hget_put _ _ _ _ _ hx with ⟨rfl, rfl⟩ | hx
    · exact ⟨g, c, by simp [Ctx.add], by rw [hgo]; exact hb⟩
    · obtain ⟨g1, c', k1, k2⟩ := h.at_ b x hx
      exact ⟨g1, c', hle.bl _ _ k1, k2.le hle⟩
  · by_cases e : b = n <;> by_cases e' : b' = n
    · rw [e, e']
    · exfalso
      simp [Ctx.add, e] at hg
      simp [Ctx.add, e'] at hg'
      exact hbl b' c2 (by rw [hg', hg.1])
    · exfalso
      simp [Ctx.add, e] at hg
      simp [Ctx.add, e'] at hg'
      exact hbl b c1 (by rw [hg, hg'.1])
    · simp [Ctx.add, e] at hg
      simp [Ctx.add, e'] at hg'
      rcases hget_put _ _ _ _ _ hx with ⟨k, _⟩ | hx
      · exact absurd k e
      · rcases hget_put _ _ _ _ _ hx' with ⟨k, _⟩ | hx'
        · exact absurd k e'
        · exact h.inj b b' x x' g1 c1 c2 hx hx' hg hg'
  · by_cases e : b = n
    · simp [Ctx.add, e] at hb1; rw [← hb1.1]; exact hgS
    · simp [Ctx.add, e] at hb1
      rcases hget_put _ _ _ _ _ hx with ⟨k, _⟩ | hx
      · exact absurd k e
      · exact h.apart b x g1 c1 hx hb1
  · by_cases e : b = n
    · simp [Ctx.add, e] at hb1; exact .inl hb1.1.symm
    · simp [Ctx.add, e] at hb1
      rcases hget_put _ _ _ _ _ hx with ⟨k, _⟩ | hx
      · exact absurd k e
      · exact .inr (h.own b x g1 c1 hx hit hb1)
  · obtain ⟨m1, m2⟩ := hcn hb1
    obtain ⟨k1, k2⟩ := h.free b m1
    refine ⟨?_, k2⟩
    simp only [Ctx.add]
    rw [if_neg m2]
    exact k1
  · by_cases e : b = n
    · simp [Ctx.add, e] at hb1; rw [← hb1.1]; exact (Array.getElem?_eq_some_iff.1 hgo).1
    · simp [Ctx.add, e] at hb1; exact h.blt b g1 c1 hb1
/-- fewer blocks that may be written -/
def Ctx.tight (C : Ctx) (w : World) : Ctx := { C with O := fun k => C.O k ∧ k < w.heap.size }
theorem Ctx.le_tight (C : Ctx) (w : World) : C.le (C.tight w) := ⟨fun i hi => ⟨hi, rfl, rfl, rfl⟩, rfl, rfl, fun _ _ h => h⟩
theorem Ctx.tight_le (C : Ctx) (w : World) : (C.tight w).le C := ⟨fun i hi => ⟨hi, rfl, rfl, rfl⟩, rfl, rfl, fun _ _ h => h⟩
theorem HRel.tight {hp : Hp} (h : HRel C hp w) {o : Obj} : HRel (C.tight w) hp (w.alloc o) := by
  refine ⟨⟨fun b blk hb => ?_, h.inj⟩, h.ext.keep (by simp) (fun k hk => heap_alloc_old w o (h.ext.lt k hk)), h.apart, fun b blk g c hb hit hg => ⟨h.own b blk g c hb hit hg, h.blt b g c hg⟩, h.free, fun b g c hb => by have := h.blt b g c hb; simp; omega⟩
  obtain ⟨g, c, k1, k2⟩ := h.at_ b blk hb
  exact ⟨g, c, k1, by rw [heap_alloc_old w o k2.lt]; exact k2.le (C.le_tight w)⟩
theorem Kp.tight {C0 : Ctx} {w0 : World} (k : Kp C0 w0 C w) (o : Obj) : Kp C0 w0 (C.tight w) (w.alloc o) :=
  ⟨k.le.trans (C.le_tight w), Nat.le_trans k.size (by simp), k.tape, k.os, k.output, fun g hg h1 h2 => (heap_alloc_old w o (Nat.lt_of_lt_of_le hg k.size)).trans (k.keep g hg h1 h2), k.newS, fun g hg => k.new g hg.1, k.newbl⟩
theorem Kp.adopt {C0 : Ctx} {w0 : World} (k : Kp C0 w0 C w) {n g c : Nat} (hn : C.bl n = none) (hg : w0.heap.size ≤ g) : Kp C0 w0 (C.add n g c) w :=
  ⟨k.le.trans (Ctx.le_add hn), k.size, k.tape, k.os, k.output, k.keep, k.newS, fun b hb => hb.elim (fun e => .inr (by rw [e]; exact hg)) (k.new b), fun b g1 c1 hb => by
    by_cases e : b = n
    · simp [Ctx.add, e] at hb; exact .inr (by omega)
    · simp [Ctx.add, e] at hb; exact k.newbl b g1 c1 hb⟩
theorem put_size (a : Act) (dst : Option Tmp) (v : Value) : (a.put dst v).tmps.size = a.tmps.size := by cases dst <;> simp [Act.put]
theorem put_ne {a : Act} {dst : Option Tmp} {v : Value} {d : Nat} (h : dst ≠ some d) : (a.put dst v).tmps.getD d Go.undef = a.tmps.getD d Go.undef := by
  cases dst with
  | none => rfl
  | some e =>
    simp only [Act.put]
    rw [Array.getD_eq_getD_getElem?, Array.getElem?_setIfInBounds_ne (fun he => h (by rw [he])), ← Array.getD_eq_getD_getElem?]
theorem put_eq {a : Act} {v : Value} {d : Nat} (h : d < a.tmps.size) : (a.put (some d) v).tmps.getD d Go.undef = v := by
  simp only [Act.put]
  rw [Array.getD_eq_getD_getElem?, Array.getElem?_setIfInBounds_self_of_lt h]
  rfl
theorem wpAnyG_end {ops : Array Oper} {Q : Exit → Act → World → Prop} {L : List (Nat × (World → Prop))} {lst : Array Bool} (h : Region.ready .any ops lst = []) (hq : Q .normal a w) : ∀ f, wpAnyG P .any ops Q L f lst a w
  | 0 => ⟨h, hq⟩
  | f + 1 => ⟨fun _ => hq, fun i hi => by rw [h] at hi; cases hi⟩
/-- what an operation makes that makes a new variable -/
theorem wp_alloc {o : Oper} {t : TypeId} {d : Nat} (hal : allocOf o = some (t, d)) {z : Value} (hz : ∀ w, (zeroValue t).run P w = .ok z w) {K : Act → World → Prop} {Q : Exit → Act → World → Prop} (hK : K (a.put o.dst (.pointer (some ⟨w.heap.size, 0, none⟩))) (w.alloc (.cells z.cells t (0, 0)))) : o.wp P a w K Q := by
  obtain ⟨h1, h2, h3⟩ := allocOf_ok hal
  unfold Oper.wp
  have : (execOp a.eval o).run P w = .ok (.value (.pointer (some ⟨w.heap.size, 0, none⟩))) (w.alloc (.cells z.cells t (0, 0))) := by
    unfold execOp
    rw [h1]
    simp [Instr.alloc, hz, newVar, newRow, alloc_eq]
  rw [this]
  exact hK
/-- what was made early -/
structure Dn (P : Program) (ops : Array Oper) (w0 : World) (C : Ctx) (m : Nat) (a : Act) (w : World) (D : List (Nat × Nat)) : Prop where
  op : ∀ p ∈ D, ∃ o t d z, ops[p.1]? = some o ∧ allocOf o = some (t, d) ∧ p.1 ∈ Region.ready .any ops (markA ops.size m) ∧ d < a.tmps.size ∧ a.tmps.getD d Go.undef = .pointer (some ⟨p.2, 0, none⟩) ∧ (∀ w, (zeroValue t).run P w = .ok z w) ∧ w.heap[p.2]? = some (.cells z.cells t (0, 0))
  own : ∀ p ∈ D, ¬ C.O p.2 ∧ ¬ C.S p.2 ∧ p.2 < w.heap.size ∧ w0.heap.size ≤ p.2 ∧ ∀ b c, C.bl b ≠ some (p.2, c)
  nd1 : (D.map (·.1)).Nodup
  nd2 : (D.map (·.2)).Nodup
theorem Dn.nil {ops : Array Oper} {w0 : World} {m : Nat} : Dn P ops w0 C m a w [] := ⟨fun _ h => (nomatch h), fun _ h => (nomatch h), List.Pairwise.nil, List.Pairwise.nil⟩
theorem ready_or {ops : Array Oper} {m i p : Nat} (hp : p ∈ Region.ready .any ops (markA ops.size m)) (hne : p ≠ i) : p ∈ Region.ready .any ops (markA ops.size (m ||| (1 <<< i))) := by
  obtain ⟨h1, h2, o, ho, h3⟩ := rdy_iff.1 hp
  refine rdy_iff.2 ⟨h1, by rw [test_or, h2]; simp [Ne.symm hne], o, ho, fun e he hb => ?_⟩
  obtain ⟨k1, k2⟩ := h3 e he hb
  exact ⟨k1, by rw [test_or, k2]; rfl⟩
theorem Dn.step {ops : Array Oper} {w0 : World} {m : Nat} {D : List (Nat × Nat)} (hD : Dn P ops w0 C m a w D) {C' : Ctx} {w' : World} (k : Kp C w C' w') {i : Nat} (hi : ∀ p ∈ D, p.1 ≠ i) {dst : Option Tmp} {v : Value} (hd : ∀ p ∈ D, ∀ o t d, ops[p.1]? = some o → allocOf o = some (t, d) → dst ≠ some d) :
    Dn P ops w0 C' (m ||| (1 <<< i)) (a.put dst v) w' D := by
  refine ⟨fun p hp => ?_, fun p hp => ?_, hD.nd1, hD.nd2⟩
  · obtain ⟨o, t, d, z, h1, h2, h3, h4, h5, h6, h7⟩ := hD.op p hp
    obtain ⟨q1, q2, q3, q4, q5⟩ := hD.own p hp
    exact ⟨o, t, d, z, h1, h2, ready_or h3 (hi p hp), by rw [put_size]; exact h4, by rw [put_ne (hd p hp o t d h1 h2)]; exact h5, h6, by rw [k.keep p.2 q3 q1 q2]; exact h7⟩
  · obtain ⟨q1, q2, q3, q4, q5⟩ := hD.own p hp
    refine ⟨fun h => ?_, fun h => ?_, Nat.lt_of_lt_of_le q3 k.size, q4, fun b c h => ?_⟩
    · rcases k.new _ h with h | h
      · exact q1 h
      · omega
    · rcases k.newS _ h with h | h
      · exact q2 h
      · omega
    · rcases k.newbl _ _ _ h with ⟨b0, c0, h⟩ | h
      · exact q5 b0 c0 h
      · omega
theorem closed_bits {ops : Array Oper} {m : Nat} {D : List (Nat × Nat)} (hcl : Closed .any ops (markA ops.size m)) (hr : ∀ p ∈ D, p.1 ∈ Region.ready .any ops (markA ops.size m)) : Closed .any ops (markA ops.size (bitsE D m)) := by
  intro j oj hj hl e he hb
  have up : ∀ k, (markA ops.size m).getD k false = true → (markA ops.size (bitsE D m)).getD k false = true := fun k hk => by
    rw [markA_getD] at hk ⊢
    split at hk
    · rename_i hlt
      rw [if_pos hlt, bitsE_test]; exact .inl hk
    · cases hk
  have hlt := (Array.getElem?_eq_some_iff.1 hj).1
  rw [markA_getD, if_pos hlt, bitsE_test] at hl
  rcases hl with hl | ⟨p, hp, rfl⟩
  · exact up _ (hcl j oj hj (by rw [markA_getD, if_pos hlt]; exact hl) e he hb)
  · obtain ⟨_, _, o, ho, h3⟩ := rdy_iff.1 (hr p hp)
    rw [hj] at ho; cases ho
    obtain ⟨k1, k2⟩ := h3 e he hb
    exact up _ (by rw [markA_getD, if_pos k1]; exact k2)
theorem Dn.rdy {ops : Array Oper} {w0 : World} {m : Nat} {D : List (Nat × Nat)} (hD : Dn P ops w0 C m a w D) : ∀ p ∈ D, p.1 ∈ Region.ready .any ops (markA ops.size m) := fun p hp => by
  obtain ⟨_, _, _, _, _, _, h, _⟩ := hD.op p hp
  exact h
theorem Dn.alloc {ops : Array Oper} {w0 : World} {m : Nat} {D : List (Nat × Nat)} (hD : Dn P ops w0 C m a w D) {p : Nat × Nat} (hp : p ∈ D) : isAlloc ops p.1 = true := by
  obtain ⟨o, t, d, z, h1, h2, _⟩ := hD.op p hp
  unfold isAlloc; rw [h1]; simp [h2]
theorem mark_bits {ops : Array Oper} {x y : Nat} (h : ∀ k, x.testBit k = y.testBit k) : markA ops.size x = markA ops.size y := markA_congr fun k _ => h k
theorem cnt_same {n x y : Nat} (h : ∀ k, x.testBit k = y.testBit k) : cnt n x = cnt n y :=
  Nat.le_antisymm (cnt_mono fun k _ hk => by rw [h k]; exact hk) (cnt_mono fun k _ hk => by rw [← h k]; exact hk)
section
variable {ops : Array Oper} {sp : Option (Nat × Nat)} {Q : Exit → Act → World → Prop} {Φ : Env → St → Prop} {C0 : Ctx} {w0 : World}
/-- what the region's remainder comes to, from there on -/
def Goes (P : Program) (X : Ext) (ft : Ft) (tb : Tb) (cf : Cf) (ops : Array Oper) (sp : Option (Nat × Nat)) (Q : Exit → Act → World → Prop) (Φ : Env → St → Prop) (C0 : Ctx) (w0 : World) (n : Nat) : Prop :=
  ∀ {f m : Nat} {held : List Hd} {L : List (Nat × (World → Prop))} {D : List (Nat × Nat)} {C : Ctx} {w : World} {st : St} {a : Act}, C.Is X ft → Kp C0 w0 C w → HRel C st.hp w → ARel C st a → HeldRel P C st.hp held L → Closed .any ops (markA ops.size m) →
    SL .any ops L (markA ops.size (bitsE D m)) w → Dn P ops w0 C m a w D → cnt ops.size (bitsE D m) ≤ f → (xanyG P tb cf ops sp n m held st).holds Φ C.V → wpAnyG P .any ops Q L f (markA ops.size (bitsE D m)) a w
/-- a new variable that was made already comes up -/
theorem goes_adopt {n : Nat} (ih : Goes P X ft tb cf ops sp Q Φ C0 w0 n) {f m i g : Nat} {held : List Hd} {L : List (Nat × (World → Prop))} {D : List (Nat × Nat)} (hC : C.Is X ft) (hk : Kp C0 w0 C w) (h : HRel C st.hp w) (ha : ARel C st a) (hH : HeldRel P C st.hp held L) (hcl : Closed .any ops (markA ops.size m))
    (hS : SL .any ops L (markA ops.size (bitsE ((i, g) :: D) m)) w) (hD : Dn P ops w0 C m a w ((i, g) :: D)) (hf : cnt ops.size (bitsE ((i, g) :: D) m) ≤ f)
    (hx : (xone P tb cf ops sp i held st fun held st => natK (m ||| (1 <<< i)) fun m => xanyG P tb cf ops sp n m held st).holds Φ C.V) : wpAnyG P .any ops Q L f (markA ops.size (bitsE ((i, g) :: D) m)) a w := by
  obtain ⟨o, t, d, z, ho, hal, hr, hd, hv, hz, hh⟩ := hD.op (i, g) List.mem_cons_self
  obtain ⟨q1, q2, q3, q4, q5⟩ := hD.own (i, g) List.mem_cons_self
  simp only at ho hr hv hh q1 q2 q3 q4 q5
  unfold xone at hx
  rw [ho] at hx
  simp only at hx
  split at hx
  · rename_i st1 hst1
    obtain ⟨h1, hp1, e1, e2⟩ := into_ok h hst1
    rw [T.holds_bind] at hx
    obtain ⟨hcan, pz, hpz, hok, hx⟩ := xstep_alloc hal hx
    rw [T.holds_bind] at hx
    obtain ⟨z', hz', hzr⟩ := xzero_ok hpz (C.add st1.hp.nx g 0)
    have : z' = z := by have h1 := hz' w; rw [hz w] at h1; cases h1; rfl
    subst this
    obtain ⟨vs, hvs, hcs⟩ := hzr.cells
    have hn := (h1.free st1.hp.nx (Hp.can_free hcan)).1
    have hA : HRel (C.add st1.hp.nx g 0) { st1.hp with H := hput st1.hp.H st1.hp.nx (.cells pz.cells t 0 false), nx := st1.hp.nx + 1 } w :=
      h1.adopt hcan hh ⟨vs, [], hvs, by rw [hcs]; simp, fun _ => rfl, (fun e => by cases e), hok⟩ q2 q5
    have hle := Ctx.le_add (g := g) (c := 0) hn
    have hAR : ARel (C.add st1.hp.nx g 0) (st1.put (some d) (.sc (.ptr st1.hp.nx 0)) { st1.hp with H := hput st1.hp.H st1.hp.nx (.cells pz.cells t 0 false), nx := st1.hp.nx + 1 }) a := by
      have ha1 : ARel C st1 a := by rw [e1]; exact ha.hp _
      refine ⟨by rw [St.put_sz]; exact ha1.sz, by rw [St.put_sz]; exact ha1.most, fun k => ?_, ha1.defers⟩
      rw [put_get ha1.most]
      by_cases e : k = d ∧ d < st1.sz
      · rw [if_pos e, e.1, hv]
        exact ⟨g, 0, by simp [Ctx.add], rfl⟩
      · rw [if_neg e]; exact SV.rel.le hle (ha1.rel k)
    obtain ⟨hp2, hB, hx⟩ := outof_ok (C := C.add st1.hp.nx g 0) (by rw [St.put_hp]; exact hA) hx
    split at hx
    · rename_i held' hh'
      rw [natK_eq] at hx
      have hi := (Array.getElem?_eq_some_iff.1 ho).1
      have hbit : ∀ k, (bitsE ((i, g) :: D) m).testBit k = (bitsE D (m ||| (1 <<< i))).testBit k := fun k => bitsE_or.symm
      obtain ⟨L', l1, l2, l3⟩ := held_next (lst := markA ops.size (bitsE ((i, g) :: D) m)) ho (by rw [markA_getD, if_pos hi, bitsE_test]; exact .inr ⟨_, List.mem_cons_self, rfl⟩) hH hle hB hh'
      refine wpAnyG_weak (L' := L') (l0 := markA ops.size (bitsE ((i, g) :: D) m)) l3 f _ _ _ (fun k hk => hk) ?_
      rw [mark_bits hbit] at l2 ⊢
      have hnd1 := List.nodup_cons.1 hD.nd1
      have hnd2 := List.nodup_cons.1 hD.nd2
      refine ih (hC.le hle) (hk.adopt hn q4) hB ((hAR.hp _)) l1 (by rw [← markA_set hi]; exact hcl.set hr) l2 ⟨fun p hp => ?_, fun p hp => ?_, hnd1.2, hnd2.2⟩ (by rw [← cnt_same hbit]; exact hf) hx
      · obtain ⟨o', t', d', z', r1, r2, r3, r4, r5, r6, r7⟩ := hD.op p (List.mem_cons_of_mem _ hp)
        exact ⟨o', t', d', z', r1, r2, ready_or r3 fun e => hnd1.1 (List.mem_map.2 ⟨p, hp, e⟩), r4, r5, r6, r7⟩
      · obtain ⟨r1, r2, r3, r4, r5⟩ := hD.own p (List.mem_cons_of_mem _ hp)
        have hne : p.2 ≠ g := fun e => hnd2.1 (List.mem_map.2 ⟨p, hp, e⟩)
        refine ⟨fun hO => hO.elim (fun e => hne e) r1, r2, r3, r4, fun b c hb => ?_⟩
        by_cases e : b = st1.hp.nx
        · simp [Ctx.add, e] at hb; exact hne hb.1.symm
        · simp [Ctx.add, e] at hb; exact r5 b c hb
    · exact hx.elim
  · exact hx.elim
/-- an operation that is carried out -/
theorem goes_real (htb : TbOk P tb) (hcf : CfOk P X ft cf) {n : Nat} (ih : Goes P X ft tb cf ops sp Q Φ C0 w0 n) {f m j : Nat} {held : List Hd} {L : List (Nat × (World → Prop))} {D : List (Nat × Nat)} (hC : C.Is X ft) (hk : Kp C0 w0 C w) (h : HRel C st.hp w) (ha : ARel C st a) (hH : HeldRel P C st.hp held L) (hcl : Closed .any ops (markA ops.size m))
    (hD : Dn P ops w0 C m a w D) (hf : cnt ops.size (bitsE D m) ≤ f + 1) (hj : j ∈ Region.ready .any ops (markA ops.size m)) (hjD : ∀ p ∈ D, p.1 ≠ j) (hdst : ∀ p ∈ D, dstNe ops j p.1 = true)
    (hx : (xone P tb cf ops sp j held st fun held st => natK (m ||| (1 <<< j)) fun m => xanyG P tb cf ops sp n m held st).holds Φ C.V) :
    wpOp P ops Q j (fun a' w' => SL .any ops L ((markA ops.size (bitsE D m)).setIfInBounds j true) w' ∧ wpAnyG P .any ops Q L f ((markA ops.size (bitsE D m)).setIfInBounds j true) a' w') a w := by
  obtain ⟨hlt, hun, o, ho, _⟩ := rdy_iff.1 hj
  unfold xone at hx
  rw [ho] at hx
  simp only at hx
  unfold wpOp
  rw [ho]
  simp only
  have hunD : (bitsE D m).testBit j = false := by
    cases hb : (bitsE D m).testBit j with
    | false => rfl
    | true =>
      rcases bitsE_test.1 hb with hb | ⟨p, hp, e⟩
      · rw [hun] at hb; cases hb
      · exact absurd e (hjD p hp)
  rw [markA_set hlt, mark_bits (fun k => (bitsE_or (D := D) (m := m) (i := j) (k := k)).symm)]
  split at hx
  · rename_i st1 hst1
    obtain ⟨h1, hp1, e1, e2⟩ := into_ok h hst1
    rw [T.holds_bind] at hx
    have ha1 : ARel C st1 a := by rw [e1]; exact ha.hp _
    have hs := xstep_ok2 (st := st1) (Q := Q) (K := fun a' w' => SL .any ops L (markA ops.size (bitsE D (m ||| (1 <<< j)))) w' ∧ wpAnyG P .any ops Q L f (markA ops.size (bitsE D (m ||| (1 <<< j)))) a' w') htb hcf hC h1 ha1 hx fun C' sv hp' v w' k1 k2 k3 k4 => by
      rw [T.holds_bind] at k4
      obtain ⟨hp2, hB, k4⟩ := outof_ok (by rw [St.put_hp]; exact k2) k4
      split at k4
      · rename_i held' hh'
        rw [natK_eq] at k4
        obtain ⟨L', l1, l2, l3⟩ := held_next (lst := markA ops.size (bitsE D (m ||| (1 <<< j)))) ho (by rw [markA_getD, if_pos hlt, bitsE_test, test_or]; simp) hH k1.le hB hh'
        refine ⟨l3 _ _ (fun k hk => hk) l2, wpAnyG_weak (L' := L') (l0 := markA ops.size (bitsE D (m ||| (1 <<< j)))) l3 f _ _ _ (fun k hk => hk) ?_⟩
        refine ih (hC.le k1.le) (hk.trans k1) hB (k3.hp _) l1 (by rw [← markA_set hlt]; exact hcl.set hj) l2 (hD.step k1 hjD fun p hp o' t d r1 r2 e => ?_) ?_ k4
        · exact dstNe_ok (hdst p hp) ho r1 e (allocOf_ok r2).2.2
        · have : cnt ops.size (bitsE D (m ||| (1 <<< j))) < cnt ops.size (bitsE D m) := cnt_lt (i := j) (fun k _ hk => by
            rw [bitsE_or, test_or, hk]; rfl) hlt hunD (by rw [bitsE_or, test_or]; simp)
          omega
      · exact k4.elim
    split
    · rename_i hw; rw [if_pos hw] at hs; exact .inl hs
    · rename_i hw; rw [if_neg hw] at hs; exact hs
  · exact hx.elim
/-- it is taken; new variables may be made early -/
theorem goes_pick (htb : TbOk P tb) (hcf : CfOk P X ft cf) {n : Nat} (ih : Goes P X ft tb cf ops sp Q Φ C0 w0 n) {m j : Nat} {rs : List Nat} {held : List Hd} {L : List (Nat × (World → Prop))} (hr : Region.ready .any ops (markA ops.size m) = rs) (hj : j ∈ rs) (hpk : ∀ p ∈ rs, p ≠ j → isAlloc ops p = true ∧ behind .any ops p j = true ∧ dstNe ops j p = true)
    (hap : ∀ i ∈ rs, ∀ k ∈ rs, i ≠ j → k ≠ j → i ≠ k → dstNe ops i k = true) (hcl : Closed .any ops (markA ops.size m)) (hpo : pendOk P ops st.sz (pendL ops rs j) = true)
    (hany : ∀ p ∈ rs, p ≠ j → ∀ o t d, ops[p]? = some o → allocOf o = some (t, d) → st.get d = .any) : ∀ (f : Nat) {D : List (Nat × Nat)} {C : Ctx} {w : World} {a : Act}, C.Is X ft → Kp C0 w0 C w → HRel C st.hp w → ARel C st a → HeldRel P C st.hp held L →
    SL .any ops L (markA ops.size (bitsE D m)) w → Dn P ops w0 C m a w D → (∀ p ∈ D, p.1 ≠ j) → cnt ops.size (bitsE D m) ≤ f →
    (xone P tb cf ops sp j held st fun held st => natK (m ||| (1 <<< j)) fun m => xanyG P tb cf ops sp n m held st).holds Φ C.V → wpAnyG P .any ops Q L f (markA ops.size (bitsE D m)) a w := by
  intro f
  have hjr : j ∈ Region.ready .any ops (markA ops.size m) := by rw [hr]; exact hj
  obtain ⟨hlt, hun, oj, hoj, hej⟩ := rdy_iff.1 hjr
  have unl : ∀ {D : List (Nat × Nat)}, (∀ p ∈ D, p.1 ≠ j) → (bitsE D m).testBit j = false := fun {D} hjD => by
    cases hb : (bitsE D m).testBit j with
    | false => rfl
    | true =>
      rcases bitsE_test.1 hb with hb | ⟨p, hp, e⟩
      · rw [hun] at hb; cases hb
      · exact absurd e (hjD p hp)
  induction f with
  | zero =>
    intro D C w a hC hk h ha hH hS hD hjD hf hx
    have := cnt_pos hlt (unl hjD)
    omega
  | succ f ihf =>
    intro D C w a hC hk h ha hH hS hD hjD hf hx
    have hclR := closed_bits hcl hD.rdy
    have hjR : j ∈ Region.ready .any ops (markA ops.size (bitsE D m)) := rdy_iff.2 ⟨hlt, unl hjD, oj, hoj, fun e he hb => ⟨(hej e he hb).1, bitsE_test.2 (.inl (hej e he hb).2)⟩⟩
    refine ⟨fun h0 => by (rw [h0] at hjR; cases hjR), fun i hi => ?_⟩
    by_cases hij : i = j
    · subst hij
      exact goes_real htb hcf ih hC hk h ha hH hcl hD hf hjr hjD (fun p hp => (hpk p.1 (by rw [← hr]; exact hD.rdy p hp) (hjD p hp)).2.2) hx
    · obtain ⟨hilt, hiun, oi, hoi, hie⟩ := rdy_iff.1 hi
      have hirs : i ∈ rs := by
        rw [← hr]
        refine rdy_iff.2 ⟨hilt, ?_, oi, hoi, fun e he hb => ?_⟩
        · cases hb : m.testBit i with
          | false => rfl
          | true => rw [bitsE_test.2 (.inl hb)] at hiun; cases hiun
        · obtain ⟨k1, k2⟩ := hie e he hb
          refine ⟨k1, ?_⟩
          rcases bitsE_test.1 k2 with k2 | ⟨p, hp, hpe⟩
          · exact k2
          · exfalso
            have hprs : p.1 ∈ rs := by rw [← hr]; exact hD.rdy p hp
            have hre := behind_ok (hpk p.1 hprs (hjD p hp)).2.1 hoi he hb hpe.symm
            -- whatever i waits for has come up; j has not
            have hno : (markA ops.size (bitsE D m)).getD j false = true → False := fun hb => by
              rw [markA_getD, if_pos hlt, unl hjD] at hb; cases hb
            have hl : ∀ e ∈ oi.after, Region.binds .any e = true → (markA ops.size (bitsE D m)).getD e.on false = true := fun e he hb => by
              obtain ⟨k1, k2⟩ := hie e he hb
              rw [markA_getD, if_pos k1]; exact k2
            cases hre with
            | one ho' he' hb' => rw [hoi] at ho'; cases ho'; exact hno (hl _ he' hb')
            | more ho' he' hb' hr' => rw [hoi] at ho'; cases ho'; exact hno (hr'.listed hclR (hl _ he' hb'))
      obtain ⟨hal, hbe, hdj⟩ := hpk i hirs hij
      obtain ⟨t, d, hto⟩ : ∃ t d, allocOf oi = some (t, d) := by
        unfold isAlloc at hal
        rw [hoi] at hal
        simp only at hal
        obtain ⟨⟨t, d⟩, h⟩ := Option.isSome_iff_exists.1 hal
        exact ⟨t, d, h⟩
      obtain ⟨t1, t2, t3⟩ := allocOf_ok hto
      have hpo' : (xzero P t).isSome = true ∧ d < st.sz := by
        have := List.all_eq_true.1 hpo i (mem_pendL.2 ⟨hirs, hij⟩)
        rw [hoi] at this
        simp only [hto, Bool.and_eq_true] at this
        exact ⟨this.1, blt_true.1 this.2⟩
      obtain ⟨pz, hpz⟩ := Option.isSome_iff_exists.1 hpo'.1
      obtain ⟨z, hz, _⟩ := xzero_ok hpz C
      have hda : d < a.tmps.size := by rw [← ha.sz]; exact hpo'.2
      have hnew : ∀ p ∈ D, p.1 ≠ i := fun p hp e => by
        rw [bitsE_test.2 (.inr ⟨p, hp, e⟩)] at hiun; cases hiun
      have hdp : ∀ p ∈ D, ∀ o t d', ops[p.1]? = some o → allocOf o = some (t, d') → oi.dst ≠ some d' := fun p hp o t d' r1 r2 e =>
        dstNe_ok (hap i hirs p.1 (by rw [← hr]; exact hD.rdy p hp) hij (hjD p hp) (Ne.symm (hnew p hp))) hoi r1 e (allocOf_ok r2).2.2
      unfold wpOp
      rw [hoi]
      simp only
      rw [if_pos (by unfold Region.wanted; rw [t2])]
      refine .inl (wp_alloc hto hz ?_)
      rw [markA_set hilt]
      have hsame : markA ops.size (bitsE D m ||| (1 <<< i)) = markA ops.size (bitsE ((i, w.heap.size) :: D) m) := rfl
      rw [hsame]
      have hT := h.tight (o := .cells z.cells t (0, 0))
      have hHT : HeldRel P (C.tight w) st.hp held L := fun q hq => by
        obtain ⟨h0, r1, r2, r3, r4⟩ := hH q hq
        exact ⟨h0, r1, r2, r3, fun C' hp' w' l1 l2 l3 => r4 C' hp' w' ((C.le_tight w).trans l1) l2 l3⟩
      have hST : SL .any ops L (markA ops.size (bitsE ((i, w.heap.size) :: D) m)) (w.alloc (.cells z.cells t (0, 0))) := fun q hq => by
        obtain ⟨h0, r1, r2, r3, r4⟩ := hHT q hq
        exact .inr (r4 _ _ _ (.refl _) hT r3)
      refine ⟨hST, ihf (hC.le (C.le_tight w)) (hk.tight _) hT ?_ hHT hST ?_ ?_ ?_ hx⟩
      · have hl := ha.le (C.le_tight w)
        refine ⟨by rw [put_size]; exact hl.sz, hl.most, fun k => ?_, ?_⟩
        · rw [t3]
          by_cases e : k = d
          · subst e
            rw [hany i hirs hij oi t k hoi hto]; trivial
          · rw [put_ne (fun e' => e (by cases e'; rfl))]; exact hl.rel k
        · rw [t3]; exact hl.defers
      · refine ⟨fun p hp => ?_, fun p hp => ?_, ?_, ?_⟩
        · rcases List.mem_cons.1 hp with rfl | hp
          · exact ⟨oi, t, d, z, hoi, hto, by rw [hr]; exact hirs, by rw [put_size]; exact hda, by rw [t3, put_eq hda], hz, heap_alloc_new _ _⟩
          · obtain ⟨o', t', d', z', r1, r2, r3, r4, r5, r6, r7⟩ := hD.op p hp
            exact ⟨o', t', d', z', r1, r2, r3, by rw [put_size]; exact r4, by rw [put_ne (hdp p hp o' t' d' r1 r2)]; exact r5, r6, by rw [heap_alloc_old w _ (hD.own p hp).2.2.1]; exact r7⟩
        · rcases List.mem_cons.1 hp with rfl | hp
          · exact ⟨fun h => Nat.lt_irrefl _ h.2, fun h' => Nat.lt_irrefl _ (h.ext.lt _ h'), by simp, hk.size, fun b c hb => Nat.lt_irrefl _ (h.blt b _ c hb)⟩
          · obtain ⟨r1, r2, r3, r4, r5⟩ := hD.own p hp
            exact ⟨fun h => r1 h.1, r2, by simp; omega, r4, r5⟩
        · refine List.nodup_cons.2 ⟨fun hm => ?_, hD.nd1⟩
          obtain ⟨p, hp, e⟩ := List.mem_map.1 hm
          exact hnew p hp e
        · refine List.nodup_cons.2 ⟨fun hm => ?_, hD.nd2⟩
          obtain ⟨p, hp, e⟩ := List.mem_map.1 hm
          have := (hD.own p hp).2.2.1
          simp only at e
          omega
      · intro p hp
        rcases List.mem_cons.1 hp with rfl | hp
        · exact hij
        · exact hjD p hp
      · have : cnt ops.size (bitsE ((i, w.heap.size) :: D) m) < cnt ops.size (bitsE D m) := cnt_lt (i := i) (fun k _ hk => by
          show (bitsE D m ||| (1 <<< i)).testBit k = true
          rw [test_or, hk]; rfl) hilt hiun (by show (bitsE D m ||| (1 <<< i)).testBit i = true; rw [test_or]; simp)
        omega
theorem xanyG_ok (htb : TbOk P tb) (hcf : CfOk P X ft cf) (hns : Region.noSelect ops = true) (hQ : ∀ c a w, ¬ Q (.panic c) a w)
    (hK : ∀ C' st' a' w', Kp C0 w0 C' w' → HRel C' st'.hp w' → ARel C' st' a' → Φ C'.V st' → Q .normal a' w') : ∀ (n : Nat), Goes P X ft tb cf ops sp Q Φ C0 w0 n := by
  intro n
  have done : ∀ {f m : Nat} {L : List (Nat × (World → Prop))} {D : List (Nat × Nat)} {C : Ctx} {w : World} {st : St} {a : Act}, xnext .any ops m = .done → Kp C0 w0 C w → HRel C st.hp w → ARel C st a → Dn P ops w0 C m a w D → Φ C.V st → wpAnyG P .any ops Q L f (markA ops.size (bitsE D m)) a w := fun {f m L D C w st a} hr hk h ha hD hx => by
    have hr := xnext_done hr
    cases D with
    | nil => exact wpAnyG_end hr (hK C st a w hk h ha hx) f
    | cons p D => have := hD.rdy p List.mem_cons_self; rw [hr] at this; cases this
  induction n with
  | zero =>
    intro f m held L D C w st a hC hk h ha hH hcl hS hD hf hx
    unfold xanyG at hx
    split at hx
    · rename_i hr; exact done hr hk h ha hD hx
    · exact hx.elim
  | succ n ih =>
    intro f m held L D C w st a hC hk h ha hH hcl hS hD hf hx
    unfold xanyG at hx
    split at hx
    · rename_i hr; exact done hr hk h ha hD hx
    · rename_i i hr
      obtain ⟨k1, k2, k3⟩ := xnext_first hr
      simp only [natK_eq] at hx
      split at hx
      · exact hx.elim
      · rename_i o ho
        have hi : i < ops.size := (Array.getElem?_eq_some_iff.1 ho).1
        have hst : stillKind o.op = true := by unfold isStill at k2; rw [ho] at k2; exact k2
        obtain ⟨_, hun, oi, hoi, hie⟩ := rdy_iff.1 k1
        rw [ho] at hoi; cases hoi
        have hneD : ∀ p ∈ D, p.1 ≠ i := fun p hp e => by
          obtain ⟨o', t', d', _, r1, r2, _⟩ := hD.op p hp
          rw [e, ho] at r1; cases r1
          rw [(allocOf_ok r2).1] at hst; cases hst
        have hunD : (bitsE D m).testBit i = false := by
          cases hb : (bitsE D m).testBit i with
          | false => rfl
          | true =>
            rcases bitsE_test.1 hb with hb | ⟨p, hp, e⟩
            · rw [hun] at hb; cases hb
            · exact absurd e (hneD p hp)
        have hiR : i ∈ Region.ready .any ops (markA ops.size (bitsE D m)) := rdy_iff.2 ⟨hi, hunD, o, ho, fun e he hb => ⟨(hie e he hb).1, bitsE_test.2 (.inl (hie e he hb).2)⟩⟩
        have hclR := closed_bits hcl hD.rdy
        have hap : ∀ (j : Nat) (oj : Oper), ops[j]? = some oj → j ≠ i → (markA ops.size (bitsE D m)).getD j true = false → (∀ e ∈ oj.after, Region.binds .any e = true → e.on ≠ i) → o.apart ops oj = true := fun j oj hj hne hl hno => by
          refine k3 _ ho j oj hj hne ?_ hno
          have hjl := (Array.getElem?_eq_some_iff.1 hj).1
          rw [markA_getD, if_pos hjl] at hl ⊢
          cases hb : m.testBit j with
          | false => rfl
          | true => rw [bitsE_test.2 (.inl hb)] at hl; cases hl
        obtain ⟨f, rfl⟩ : ∃ f', f = f' + 1 := ⟨f - 1, by have := cnt_pos hi hunD; omega⟩
        have hcnt : cnt ops.size (bitsE D (m ||| (1 <<< i))) ≤ f := by
          have : cnt ops.size (bitsE D (m ||| (1 <<< i))) < cnt ops.size (bitsE D m) := cnt_lt (i := i) (fun k _ hk => by
            rw [bitsE_or, test_or, hk]; rfl) hi hunD (by rw [bitsE_or, test_or]; simp)
          omega
        have hmark : (markA ops.size (bitsE D m)).setIfInBounds i true = markA ops.size (bitsE D (m ||| (1 <<< i))) := by
          rw [markA_set hi]; exact mark_bits fun k => bitsE_or.symm
        have hDn : ∀ v, Dn P ops w0 C (m ||| (1 <<< i)) (a.put o.dst v) w D := fun v => hD.step (.refl C w) hneD fun p hp o' t d r1 r2 e => by
          obtain ⟨_, hpun, op, hop, hpe⟩ := rdy_iff.1 (hD.rdy p hp)
          rw [r1] at hop; cases hop
          have hfree := k3 _ ho p.1 o' r1 (hneD p hp) (by rw [markA_getD, if_pos (Array.getElem?_eq_some_iff.1 r1).1]; exact hpun) fun e' he' hb' heq => by
            have := (hpe e' he' hb').2
            rw [heq, hun] at this; cases this
          exact (Oper.apart_spec hfree).2.1 d e (allocOf_ok r2).2.2
        split at hx
        · exact hx.elim
        · rename_i e he
          obtain ⟨s, hw⟩ := xwant_ok ha he
          obtain ⟨hpf, hf, hfH, _, _, _, _, _, hh⟩ := xif_holds h s hx
          simp only [St.putK_eq, svK_eq] at hh
          have hcl' : Closed .any ops (markA ops.size (m ||| (1 <<< i))) := by rw [← markA_set hi]; exact hcl.set k1
          have hSn : SL .any ops L (markA ops.size (bitsE D (m ||| (1 <<< i)))) w := by rw [← hmark]; exact hS.set
          -- what yields whatever the world
          have pure : ∀ {sv : SV} {v : Value}, sv.rel C v → Yields P ops o v a → (xanyG P tb cf ops sp n (m ||| (1 <<< i)) held (st.put o.dst sv hpf)).holds Φ C.V → wpAnyG P .any ops Q L (f + 1) (markA ops.size (bitsE D m)) a w := fun {sv v} hv hy hr => by
            have h1 := ih hC hk (by rw [St.put_hp]; exact hf) (ha.put hv o.dst hpf) (by rw [St.put_hp]; exact hH.of hfH) hcl' hSn (hDn v) hcnt hr
            have h2 : wpAnyG P .any ops Q ((i, fun _ => True) :: L) f (markA ops.size (bitsE D (m ||| (1 <<< i)))) (a.put o.dst v) w :=
              wpAnyG_weak (l0 := markA ops.size (bitsE D (m ||| (1 <<< i)))) (fun listed w _ hSL q hq => by
                rcases List.mem_cons.1 hq with rfl | hq
                · exact .inr trivial
                · exact hSL q hq) f _ _ _ (fun k hk => hk) h1
            rw [← hmark] at h2
            have h3 := wpAnyG_first (Si := fun _ => True) ho hst List.mem_cons_self (Region.noSelect_spec hns) (fun c a w hq => absurd hq (hQ _ _ _)) f _ a w hclR hap hiR (Yields.yieldsIf hy) (fun q hq => by
                rcases List.mem_cons.1 hq with rfl | hq
                · exact .inr trivial
                · exact hS q hq) h2
            exact wpAnyG_weak (l0 := markA ops.size (bitsE D m)) (fun listed w _ hSL q hq => hSL q (List.mem_cons_of_mem _ hq)) _ _ _ _ (fun k hk => hk) h3
          cases hb : e.tr C.V with
          | false => exact pure (SV.rel_undef C) (.inr ⟨by rw [hw, hb], rfl⟩) (hh.2 hb)
          | true =>
            have h1 := hh.1 hb
            split at h1
            · rename_i sv hs
              obtain ⟨v, q1, q2⟩ := pop_ok (P := P) hf.ks (ha.ev hf.ks) o sv hs
              exact pure q1 (.inl ⟨by rw [hw, hb], q2⟩) h1
            · have hold : ∀ {K : HK} {sv : SV} {v : Value}, sv.rel C v → (execOp a.eval o).run P w = .ok (.value v) w → plook P st.hp.H K = some sv → (∀ C' hp' w', C.le C' → HRel C' hp' w' → plook P hp'.H K = some sv → (execOp a.eval o).run P w' = .ok (.value v) w') →
                  (xanyG P tb cf ops sp n (m ||| (1 <<< i)) (⟨i, K, sv⟩ :: held) (st.put o.dst sv hpf)).holds Φ C.V → wpAnyG P .any ops Q L (f + 1) (markA ops.size (bitsE D m)) a w := fun {K sv v} q1 q2 hs hlater h1 => by
                have hy : YieldsIf P ops (fun w' => (execOp a.eval o).run P w' = .ok (.value v) w') o v a := .inl ⟨by rw [hw, hb], fun w' hw' => hw'⟩
                have hH' : HeldRel P C st.hp (⟨i, K, sv⟩ :: held) ((i, fun w' => (execOp a.eval o).run P w' = .ok (.value v) w') :: L) := fun q hq => by
                  rcases List.mem_cons.1 hq with rfl | hq
                  · exact ⟨_, List.mem_cons_self, rfl, hs, hlater⟩
                  · obtain ⟨h0, l1, l2⟩ := hH q hq
                    exact ⟨h0, List.mem_cons_of_mem _ l1, l2⟩
                have hS' : ∀ lst, SL .any ops L lst w → SL .any ops ((i, fun w' => (execOp a.eval o).run P w' = .ok (.value v) w') :: L) lst w := fun lst hS q hq => by
                  rcases List.mem_cons.1 hq with rfl | hq
                  · exact .inr q2
                  · exact hS q hq
                have h2 := ih hC hk (by rw [St.put_hp]; exact hf) (ha.put q1 o.dst hpf) (by rw [St.put_hp]; exact HeldRel.of hfH hH') hcl' (hS' _ hSn) (hDn v) hcnt h1
                rw [← hmark] at h2
                have h3 := wpAnyG_first ho hst List.mem_cons_self (Region.noSelect_spec hns) (fun c a w hq => absurd hq (hQ _ _ _)) f _ a w hclR hap hiR hy (hS' _ hS) h2
                exact wpAnyG_weak (l0 := markA ops.size (bitsE D m)) (fun listed w _ hSL q hq => hSL q (List.mem_cons_of_mem _ hq)) _ _ _ _ (fun k hk => hk) h3
              split at h1
              · rename_i t x hop
                split at h1
                · rename_i ad had
                  split at h1
                  · rename_i sv hs
                    have hrel : ad.rel C (a.eval x) := ha.ev hf.ks _ _ had
                    obtain ⟨v, q1, q2⟩ := pload_ok hop h hrel hs
                    refine hold (K := .ld t ad) q1 q2 hs (fun C' hp' w' l1 l2 l3 => ?_) h1
                    obtain ⟨v', r1, r2⟩ := pload_ok (P := P) (ρ := a.eval) hop l2 (SV.rel.le l1 hrel) l3
                    rw [SV.rel.fn (pload_any hs) (SV.rel.le l1 q1) r1]
                    exact r2
                  · exact h1.elim
                · exact h1.elim
              · rename_i bo t x y ty hop
                split at h1
                · rename_i u u' hu hu'
                  split at h1
                  · rename_i sv hs
                    have r1 : u.rel C (a.eval x) := ha.ev hf.ks _ _ hu
                    have r2 : u'.rel C (a.eval y) := ha.ev hf.ks _ _ hu'
                    obtain ⟨v, q1, q2⟩ := pcmp_ok (ty := none) ⟨_, hop⟩ h r1 r2 hs
                    refine hold (K := .cm bo t u u') q1 q2 hs (fun C' hp' w' l1 l2 l3 => ?_) h1
                    obtain ⟨v', r3, r4⟩ := pcmp_ok (P := P) (ty := none) (ρ := a.eval) ⟨_, hop⟩ l2 (SV.rel.le l1 r1) (SV.rel.le l1 r2) l3
                    rw [SV.rel.fn (pcmp_any hs) (SV.rel.le l1 q1) r3]
                    exact r4
                  · exact h1.elim
                · exact h1.elim
              · exact h1.elim
    · rename_i rs hr
      obtain ⟨k1, k2⟩ := xnext_all hr
      split at hx
      · rename_i j hpk
        rw [natK_eq] at hx
        cases hpo : pendOk P ops st.sz (pendL ops rs j) with
        | false => rw [hpo, cond_false] at hx; exact hx.elim
        | true =>
        rw [hpo, cond_true, St.blurK_eq] at hx
        have hb1 : HRel C (st.blur (pendD ops rs j)).hp w := by rw [St.blur_hp]; exact h
        have hb2 := ha.blur (pendD ops rs j)
        have hb3 : HeldRel P C (st.blur (pendD ops rs j)).hp held L := by rw [St.blur_hp]; exact hH
        have pick : (∀ p ∈ D, p.1 ≠ j) → wpAnyG P .any ops Q L f (markA ops.size (bitsE D m)) a w := fun hjD => by
          have hany : ∀ p ∈ rs, p ≠ j → ∀ o t d, ops[p]? = some o → allocOf o = some (t, d) → (st.blur (pendD ops rs j)).get d = .any := fun p hp hne o t d r1 r2 => by
            refine St.blur_any _ ha.most (.inr ?_) ?_
            · exact List.mem_filterMap.2 ⟨p, mem_pendL.2 ⟨hp, hne⟩, by unfold dstOf; rw [r1]; exact (allocOf_ok r2).2.2⟩
            · have := List.all_eq_true.1 hpo p (mem_pendL.2 ⟨hp, hne⟩)
              rw [r1] at this
              simp only [r2, Bool.and_eq_true] at this
              exact blt_true.1 this.2
          have hpo' : pendOk P ops (st.blur (pendD ops rs j)).sz (pendL ops rs j) = true := by rw [St.blur_sz]; exact hpo
          rcases xpick_ok hpk with e | ⟨e1, e2, e3, e4⟩
          · exact goes_pick htb hcf ih k1 (by rw [e]; exact List.mem_cons_self) (fun p hp hne => absurd (List.mem_singleton.1 (e ▸ hp)) hne) (fun i hi k hk hij _ _ => absurd (List.mem_singleton.1 (e ▸ hi)) hij) hcl hpo' hany f hC hk hb1 hb2 hb3 hS hD hjD hf hx
          · exact goes_pick htb hcf ih k1 e1 (fun p hp hne => ⟨(e4 p hp hne).1, (e4 p hp hne).2, apartD_ok e3 j e1 p hp (Ne.symm hne)⟩) (fun i hi k hk _ _ hne => apartD_ok e3 i hi k hk hne) hcl hpo' hany f hC hk hb1 hb2 hb3 hS hD hjD hf hx
        cases D with
        | nil => exact pick fun p hp => nomatch hp
        | cons p D =>
          by_cases hp : ∀ q ∈ p :: D, q.1 ≠ j
          · exact pick hp
          · have hrs : rs = [j] := by
              rcases xpick_ok hpk with e | ⟨e1, e2, e3, e4⟩
              · exact e
              · exfalso
                refine hp fun q hq e => ?_
                have := hD.alloc hq
                rw [e, e2] at this; cases this
            have hpj : p.1 = j := by
              have := hD.rdy p List.mem_cons_self
              rw [k1, hrs] at this
              exact List.mem_singleton.1 this
            obtain ⟨i, g⟩ := p
            simp only at hpj
            subst hpj
            exact goes_adopt ih hC hk hb1 hb2 hb3 hcl hS hD hf hx
      · cases D with
        | cons p D =>
          obtain ⟨i, g⟩ := p
          have hirs : i ∈ rs := by rw [← k1]; exact hD.rdy (i, g) List.mem_cons_self
          have := T.boths_mem hx _ (List.mem_map.2 ⟨i, hirs, rfl⟩)
          rw [natK_eq] at this
          exact goes_adopt ih hC hk h ha hH hcl hS hD hf this
        | nil =>
          obtain ⟨i0, hi0⟩ : ∃ i, i ∈ rs := List.exists_mem_of_ne_nil _ k2
          obtain ⟨hlt0, hun0, _⟩ := rdy_iff.1 (by rw [k1]; exact hi0 : i0 ∈ Region.ready .any ops (markA ops.size m))
          obtain ⟨f, rfl⟩ : ∃ f', f = f' + 1 := ⟨f - 1, by have : 0 < cnt ops.size (bitsE [] m) := cnt_pos hlt0 hun0; omega⟩
          refine ⟨fun h0 => absurd (k1.symm.trans h0) k2, fun i hi => ?_⟩
          have := T.boths_mem hx _ (List.mem_map.2 ⟨i, k1 ▸ hi, rfl⟩)
          rw [natK_eq] at this
          exact goes_real htb hcf ih hC hk h ha hH hcl hD hf hi (fun p hp => nomatch hp) (fun p hp => nomatch hp) this
end
end
end
end Go.Proofs.YtkogjjeoihnjpaaGreat.Sx
end
section
set_option linter.unusedVariables false
set_option linter.unusedSimpArgs false
namespace Go.Proofs.YtkogjjeoihnjpaaGreat.Sx
open Go
noncomputable section
/-! ### statements -/
inductive XE where
  | nrm
  | ext (id : Nat)
  | ret
  deriving DecidableEq, Inhabited
def XE.real : XE → Exit
  | .nrm => .normal
  | .ext id => .exit id
  | .ret => .ret
abbrev XC := T (XE × St)
/-! ### one end, whatever the way -/
def T.det {α : Type} : T α → Bool
  | .ret _ => true
  | .ite _ t e => t.det && e.det
  | .bad _ => true
  | _ => false
def T.at {α : Type} (V : Env) : T α → Option α
  | .ret a => some a
  | .ite c t e => bif c.tr V then t.at V else e.at V
  | _ => none
theorem T.det_holds {α : Type} {Φ Ψ : Env → α → Prop} {V : Env} : ∀ {t : T α}, t.det = true → t.holds Φ V → (∀ r, t.at V = some r → Φ V r → Ψ V r) → t.holds Ψ V
  | .ret a, _, h, k => k a rfl h
  | .ite c t e, hd, h, k => by
    simp only [T.det, Bool.and_eq_true] at hd
    refine ⟨fun hc => T.det_holds hd.1 (h.1 hc) fun r hr => k r ?_, fun hc => T.det_holds hd.2 (h.2 hc) fun r hr => k r ?_⟩
    · simp only [T.at, hc, cond_true]; exact hr
    · simp only [T.at, hc, cond_false]; exact hr
  | .both t e, hd, h, k => nomatch hd
  | .lets f as s n t, hd, h, k => nomatch hd
  | .bad w, hd, h, k => h
  | .skip, hd, h, k => nomatch hd
theorem T.det_bind {α β : Type} {Φ : Env → β → Prop} {V : Env} {k : α → T β} {r : α} : ∀ {t : T α}, t.det = true → (t.bind k).holds Φ V → t.at V = some r → (k r).holds Φ V
  | .ret a, _, h, hr => by cases hr; exact h
  | .ite c t e, hd, h, hr => by
    simp only [T.det, Bool.and_eq_true] at hd
    cases hc : c.tr V with
    | true => simp only [T.at, hc, cond_true] at hr; exact T.det_bind hd.1 (h.1 hc) hr
    | false => simp only [T.at, hc, cond_false] at hr; exact T.det_bind hd.2 (h.2 hc) hr
  | .both t e, hd, h, hr => nomatch hd
  | .lets f as s n t, hd, h, hr => nomatch hd
  | .bad w, hd, h, hr => nomatch hr
  | .skip, hd, h, hr => nomatch hd
/-- all of them go on: then this -/
def xdone (k : XC) : List XC → XC
  | [] => k
  | t :: ts => t.bind fun r => match r.1 with | .nrm => xdone k ts | _ => .skip
theorem xdone_ok {Φ : Env → XE × St → Prop} {V : Env} {k : XC} : ∀ {ts : List XC}, (xdone k ts).holds Φ V → (∀ t ∈ ts, t.det = true ∧ ∃ st', t.at V = some (.nrm, st')) → k.holds Φ V
  | [], h, _ => h
  | t :: ts, h, ht => by
    obtain ⟨h1, st', h2⟩ := ht t List.mem_cons_self
    unfold xdone at h
    have h3 := T.det_bind h1 h h2
    exact xdone_ok h3 fun t' ht' => ht t' (List.mem_cons_of_mem _ ht')
/-! ### the loop -/
/-- the head of a loop over a map -/
structure MH where
  bi : Nat
  m : Nat
  since : Nat
  ents : List Ent
def xhead (st : St) (o : Oper) : Option MH :=
  match o.op, o.guard with
  | .next it false, none => match xev [] st.get it with
    | some (.pv (.one (.ptr bi 0))) => match hget st.hp.H bi with
      | some (.mit m since none) => match hget st.hp.H m with
        | some (.mp ents clock) => if clock = since ∧ ents.all (fun e => decide (e.born < since) && ents.all fun e' => !(Nat.beq e.born e'.born) || decide (e = e')) = true ∧ m ≠ bi then some ⟨bi, m, since, ents⟩ else none
        | _ => none
      | _ => none
    | _ => none
  | _, _ => none
def MH.hp (h : MH) (hp : Hp) : Hp := { hp with H := hdel hp.H h.bi }
/-- one round, begun with an entry -/
def xround (P : Program) (tb : Tb) (cf : Cf) (ops : Array Oper) (o : Oper) (os : List Oper) (kr : St → XC) (st : St) (h : MH) (e : Ent) : XC :=
  (xlist P tb cf ops os (St.put ⟨st.sz, st.tmps, st.hp⟩ o.dst (.tup [.one (.bool (.tt true)), e.key, e.val]) { st.hp with H := [(h.bi, .mit h.m h.since (some e.born)), (h.m, .mp h.ents h.since)] })).bind kr
/-- is it as it was? -/
def xback (st : St) (h : MH) (st' : St) : Bool :=
  Nat.beq st'.sz st.sz && (List.range st.sz).all (fun n => isAny (st.get n) || svSame (st'.get n) (st.get n)) &&
    (match hget st'.hp.H h.m with | some (.mp es c) => listSame entSame es h.ents && Nat.beq c h.since | _ => false) && decide (st'.hp.gh.m = st.hp.gh.m)
def xgone (st : St) (h : MH) (r : XE × St) : XC :=
  match r.1 with
  | .nrm => if xback st h r.2 then .skip else .bad "range turned"
  | _ => .ret (r.1, ⟨r.2.sz, r.2.tmps, { r.2.hp with H := hdel (hdel st.hp.H h.bi) h.m }⟩)
def xmap (P : Program) (tb : Tb) (cf : Cf) (ops : Array Oper) (o : Oper) (os : List Oper) (kr : St → XC) (st : St) (h : MH) : XC :=
  let ts := h.ents.map fun e => xround P tb cf ops o os kr st h e
  if ts.all T.det then
    T.boths (xdone ((xlist P tb cf ops os (st.put o.dst (.tup [.one (.bool (.tt false))]) st.hp)).bind fun st' => (kr st').bind fun r => match r.1 with
      | .nrm => .bad "range end"
      | _ => .ret r) ts :: ts.map fun t => t.bind (xgone st h))
  else .bad "range ways"
section
variable {P : Program} {X : Ext} {ft : Ft} {tb : Tb} {cf : Cf} {C : Ctx} {w : World} {st : St} {a : Act}
/-- the same blocks, told with less, or fewer -/
theorem HRel.weak {hp : Hp} {H' : Hs} {O' : Nat → Prop} (h : HRel C hp w) (hH : ∀ b blk, hget H' b = some blk → ∃ blk0, hget hp.H b = some blk0 ∧ ∀ c ob, blk0.rel C c ob → blk.rel C c ob)
    (hO : ∀ b blk g c, hget H' b = some blk → blk.it = false → C.bl b = some (g, c) → O' g) : HRel { C with O := O' } { hp with H := H' } w := by
  have hr : ∀ (b : Blk) c ob, b.rel C c ob → b.rel { C with O := O' } c ob := fun b c ob k => Blk.rel.le (C := C) (C' := { C with O := O' }) ⟨fun i hi => ⟨hi, rfl, rfl, rfl⟩, rfl, rfl, fun _ _ h => h⟩ k
  refine ⟨⟨fun b blk hb => ?_, fun b b' x x' g c c' hx hx' => ?_⟩, h.ext, (fun b blk g c hb hg => by obtain ⟨blk0, k1, _⟩ := hH b blk hb; exact h.apart b blk0 g c k1 hg), hO, h.free, h.blt⟩
  · obtain ⟨blk0, k1, k2⟩ := hH b blk hb
    obtain ⟨g, c, m1, m2⟩ := h.at_ b blk0 k1
    exact ⟨g, c, m1, hr _ _ _ (k2 _ _ m2)⟩
  · obtain ⟨y, hy, _⟩ := hH b x hx
    obtain ⟨y', hy', _⟩ := hH b' x' hx'
    exact h.inj b b' y y' g c c' hy hy'
theorem Ent.rel.fn {e : Ent} {m m' : MapEntry} (h : e.rel C m) (h' : e.rel C m') : m = m' := by
  cases m; cases m'
  obtain ⟨h1, h2, h3⟩ := h
  obtain ⟨h1', h2', h3'⟩ := h'
  simp only at h1 h2 h3 h1' h2' h3'
  rw [PV.rel.fn h1 h1', PV.rel.fn h2 h2', h3, h3']
theorem xhead_ok {o : Oper} {mh : MH} (h : xhead st o = some mh) : ∃ it clock, o.op = .next it false ∧ o.guard = none ∧ xev [] st.get it = some (.sc (.ptr mh.bi 0)) ∧ hget st.hp.H mh.bi = some (.mit mh.m mh.since none) ∧ hget st.hp.H mh.m = some (.mp mh.ents clock) ∧
    clock = mh.since ∧ (∀ e ∈ mh.ents, e.born < mh.since ∧ ∀ e' ∈ mh.ents, e.born = e'.born → e = e') ∧ mh.m ≠ mh.bi := by
  unfold xhead at h
  split at h
  · rename_i it h1 h2
    split at h
    · rename_i bi h3
      split at h
      · rename_i m since h4
        split at h
        · rename_i ents clock h5
          split at h
          · rename_i hc
            cases h
            refine ⟨it, clock, h1, h2, h3, h4, h5, hc.1, fun e he => ?_, hc.2.2⟩
            have := List.all_eq_true.1 hc.2.1 e he
            simp only [Bool.and_eq_true, decide_eq_true_eq, List.all_eq_true, Bool.or_eq_true, Bool.not_eq_true'] at this
            refine ⟨this.1, fun e' he' hb => ?_⟩
            rcases this.2 e' he' with k | k
            · rw [hb, Nat.beq_refl] at k; cases k
            · exact k
          · cases h
        · cases h
      · cases h
    · cases h
  · cases h
theorem hget_two {a b : Nat} {x y : Blk} {n : Nat} {z : Blk} (h : hget [(a, x), (b, y)] n = some z) : (n = a ∧ z = x) ∨ (n = b ∧ z = y) := by
  simp only [hget] at h
  split at h
  · rename_i e; cases h; exact .inl ⟨e.symm, rfl⟩
  · split at h
    · rename_i e; cases h; exact .inr ⟨e.symm, rfl⟩
    · cases h
theorem T.bind_holds_det {α : Type} {Φ : Env → XE × St → Prop} {V : Env} {t : T α} {k : α → XC} (hd : t.det = true) (h : (t.bind k).holds Φ V) : t.holds (fun V' r => V' = V ∧ t.at V = some r ∧ (k r).holds Φ V) V :=
  T.det_holds hd (T.holds_bind.1 h) fun r hr hk => ⟨rfl, hr, hk⟩
/-- what stands behind a round is as it was -/
theorem xback_ok {mh : MH} {st' : St} (h : xback st mh st' = true) : st'.sz = st.sz ∧ (∀ n, n < st.sz → st.get n = .any ∨ st'.get n = st.get n) ∧ hget st'.hp.H mh.m = some (.mp mh.ents mh.since) ∧ st'.hp.gh.m = st.hp.gh.m := by
  unfold xback at h
  simp only [Bool.and_eq_true, List.all_eq_true, List.mem_range, Bool.or_eq_true, decide_eq_true_eq] at h
  obtain ⟨⟨⟨h1, h2⟩, h3⟩, h4⟩ := h
  refine ⟨Nat.eq_of_beq_eq_true h1, fun n hn => (h2 n hn).imp isAny_ok svSame_ok, ?_, h4⟩
  split at h3
  · rename_i es c hb
    simp only [Bool.and_eq_true] at h3
    rw [hb, listSame_ok (fun _ _ => entSame_ok) h3.1, Nat.eq_of_beq_eq_true h3.2]
  · cases h3
theorem St.get_out {st : St} {n : Nat} (h : ¬ n < st.sz) : st.get n = SV.undef := by
  rw [St.get_eq]
  cases hb : Nat.blt n st.sz with
  | true => exact absurd (blt_true.1 hb) h
  | false => rfl
theorem ARel.back {C' : Ctx} {st' : St} {a' : Act} (h : ARel C st a) (hl : C.le C') (h' : ARel C' st' a') (h1 : st'.sz = st.sz) (h2 : ∀ n, n < st.sz → st.get n = .any ∨ st'.get n = st.get n) : ARel C st a' := by
  refine ⟨h1.symm.trans h'.sz, h.most, fun n => ?_, h'.defers⟩
  by_cases hn : n < st.sz
  · rcases h2 n hn with e | e
    · rw [e]; trivial
    · by_cases ea : st.get n = .any
      · rw [ea]; trivial
      · have k := h'.rel n
        rw [e] at k
        have := SV.rel.fn ea (SV.rel.le hl (h.rel n)) k
        rw [← this]
        exact h.rel n
  · have k := h'.rel n
    rw [St.get_out (by rw [h1]; exact hn)] at k
    rw [St.get_out hn]
    exact k
theorem xmap_ok (htb : TbOk P tb) (hcf : CfOk P X ft cf) {ops : Array Oper} {o : Oper} {os : List Oper} {id : Nat} {rest : Code} {kr : St → XC} {Q : Exit → Act → World → Prop} {Φ : Env → XE × St → Prop} (hops : ops.toList = o :: os) (hQ : ∀ c a w, ¬ Q (.panic c) a w)
    (hkr : ∀ {C : Ctx} {w : World} {st : St} {a : Act} {Q : Exit → Act → World → Prop} {Φ : Env → XE × St → Prop}, (∀ c a w, ¬ Q (.panic c) a w) → C.Is X ft → HRel C st.hp w → ARel C st a →
      (kr st).holds Φ C.V → (∀ C' r a' w', Kp C w C' w' → HRel C' r.2.hp w' → ARel C' r.2 a' → Φ C'.V r → Q r.1.real a' w') → rest.wp P Q a w)
    {mh : MH} (hC : C.Is X ft) (h : HRel C st.hp w) (ha : ARel C st a) (hm : xhead st o = some mh) (hx : (xmap P tb cf ops o os kr ⟨st.sz, st.tmps, mh.hp st.hp⟩ mh).holds Φ C.V)
    (hK : ∀ C' r a' w', Kp C w C' w' → HRel C' r.2.hp w' → ARel C' r.2 a' → Φ C'.V r → Q r.1.real a' w') : (Code.loop (.seq (.region id ops false) rest)).wp P Q a w := by
  obtain ⟨it, clock, o1, o2, o3, o4, o5, rfl, o7, o8⟩ := xhead_ok hm
  obtain ⟨g, c, b1, b2⟩ := h.at_ _ _ o4
  obtain ⟨gm, c0, seen0, b3, b4, b40, _⟩ := b2
  obtain rfl := b40 rfl
  obtain ⟨gm', cm, b5, es, b6, b7⟩ := h.at_ _ _ o5
  rw [b3] at b5; cases b5
  have hgm : gm ≠ g := fun e => o8 (h.inj _ _ _ _ g c0 c o5 o4 (e ▸ b3) b1)
  unfold xmap at hx
  simp only at hx
  split at hx
  · rename_i hdet
    have hdet : ∀ e ∈ mh.ents, (xround P tb cf ops o os kr ⟨st.sz, st.tmps, mh.hp st.hp⟩ mh e).det = true := fun e he => List.all_eq_true.1 hdet _ (List.mem_map.2 ⟨e, he, rfl⟩)
    have hdone := T.boths_mem hx _ List.mem_cons_self
    have hgone : ∀ e ∈ mh.ents, ((xround P tb cf ops o os kr ⟨st.sz, st.tmps, mh.hp st.hp⟩ mh e).bind (xgone ⟨st.sz, st.tmps, mh.hp st.hp⟩ mh)).holds Φ C.V := fun e he => T.boths_mem hx _ (List.mem_cons_of_mem _ (List.mem_map.2 ⟨_, List.mem_map.2 ⟨e, he, rfl⟩, rfl⟩))
    clear hx
    have hev : ∀ {C1 : Ctx} {a1 : Act}, C.le C1 → C1.bl = C.bl → ARel C1 ⟨st.sz, st.tmps, mh.hp st.hp⟩ a1 → a1.eval it = .pointer (some ⟨g, 0, none⟩) := fun {C1 a1} hl hb k => by
      obtain ⟨g1, c1, k1, k2⟩ := k.ev (ks := []) (fun q hq => nomatch hq) it _ (show xev [] (St.get ⟨st.sz, st.tmps, mh.hp st.hp⟩) it = some (.sc (.ptr mh.bi 0)) from o3)
      rw [hb, b1] at k1; cases k1
      exact k2
    have hbi : ∀ b blk, hget (mh.hp st.hp).H b = some blk → b ≠ mh.bi ∧ hget st.hp.H b = some blk := fun b blk hb => hget_del _ _ _ _ hb
    -- the rounds, one by one
    have key : ∀ (n : Nat) (O S : Nat → Prop) (seen : Array Nat) (a1 : Act) (w1 : World), O g → O gm → ¬ S g → ¬ S gm → HRel { C with O := O, S := S } (mh.hp st.hp) w1 → ARel { C with O := O, S := S } ⟨st.sz, st.tmps, mh.hp st.hp⟩ a1 →
        w1.heap[g]? = some (.mapIter (some gm) mh.since seen mh.since) → w1.heap[gm]? = some (.map es.toArray mh.since) → (leftOf es.toArray seen).size ≤ n →
        (∀ e ∈ mh.ents, seen.contains e.born = true → ∃ st', (xround P tb cf ops o os kr ⟨st.sz, st.tmps, mh.hp st.hp⟩ mh e).at C.V = some (.nrm, st')) →
        Kp C w { C with O := O, S := S } w1 → Code.rounds P (.seq (.region id ops false) rest) Q (n + 1) a1 w1 := by
      intro n
      induction n using Nat.strongRecOn with
      | _ n ih =>
        intro O S seen a1 w1 hOg hOm hSg hSm h1 ha1 hg1 hgm1 hn hseen hk1
        have hC1 : Ctx.Is { C with O := O, S := S } X ft := hC
        rw [rounds_succ]
        refine wp_seq (wp_region_list ?_)
        rw [hops]
        refine wpList_step fun K hKK => ?_
        have hwant : Region.wanted o (yielded ops a1.tmps) = true := by unfold Region.wanted; rw [o2]
        rw [hwant, if_pos rfl]
        unfold Oper.wp
        have hrun : (execOp a1.eval o).run P w1 = ((Instr.next (.pointer (some ⟨g, 0, none⟩)) false o.type).run P w1).andThen fun v w => .ok (.value v) w := by
          unfold execOp
          rw [o1]
          simp only [hev (C1 := { C with O := O, S := S }) ⟨fun i hi => ⟨hi, rfl, rfl, rfl⟩, rfl, rfl, fun _ _ h => h⟩ rfl ha1, Sem.run_bind]
          cases (Instr.next (.pointer (some ⟨g, 0, none⟩)) false o.type).run P w1 <;> rfl
        have hQ' : ∀ c a w, ¬ Exit.then (Code.rounds P (.seq (.region id ops false) rest) Q n) Q (.panic c) a w := fun c a w hq => hQ c a w hq
        have hold : ∀ x ∈ es.toArray.toList, x.born < mh.since := fun x hx => by
          obtain ⟨k, hk⟩ := List.mem_iff_getElem?.1 hx
          obtain ⟨e, e1, e2⟩ := b6.getR k x (by simpa using hk)
          rw [e2.2.2]
          exact (o7 e (List.mem_of_getElem? e1)).1
        rcases run_next_at (P := P) w1 o.type g gm mh.since mh.since seen es.toArray mh.since hg1 hgm1 hold (Nat.le_refl _) with ⟨hz, hr⟩ | ⟨me, hme, w2, hw2, hr⟩
        · -- all have come
          rw [hrun, hr]
          refine hKK _ _ ?_
          have hd := xdone_ok hdone (fun t ht => by
            obtain ⟨e, he, rfl⟩ := List.mem_map.1 ht
            refine ⟨hdet e he, hseen e he ?_⟩
            obtain ⟨k, hk⟩ := List.mem_iff_getElem?.1 he
            obtain ⟨m, m1, m2⟩ := b6.get k e hk
            have hl : leftOf es.toArray seen = #[] := Array.eq_empty_of_size_eq_zero hz
            cases hs : seen.contains e.born with
            | true => rfl
            | false =>
              have : m ∈ leftOf es.toArray seen := by
                unfold leftOf
                rw [Array.mem_filter]
                exact ⟨by simpa using List.mem_of_getElem? m1, by rw [m2.2.2, hs]; rfl⟩
              rw [hl] at this
              simp at this)
          rw [T.holds_bind] at hd
          refine xlist_ok htb hcf os (C := { C with O := O, S := S }) hC1 (by rw [St.put_hp]; exact h1) (ha1.put (sv := .tup [.one (.bool (.tt false))]) (v := .tuple #[.bool false]) ⟨[.bool false], .cons ⟨trivial, by simp [tr_tt]⟩ .nil, rfl⟩ o.dst (mh.hp st.hp)) hd fun C2 st2 a2 w2 k1 k2 k3 k4 => ?_
          rw [T.holds_bind] at k4
          refine hkr hQ' (hC1.le k1.le) k2 k3 k4 fun C3 r a3 w3 m1 m2 m3 m4 => ?_
          obtain ⟨x, st3⟩ := r
          cases x with
          | nrm => exact m4.elim
          | ext id => exact hK C3 (.ext id, st3) a3 w3 (hk1.trans (k1.trans m1)) m2 m3 m4
          | ret => exact hK C3 (.ret, st3) a3 w3 (hk1.trans (k1.trans m1)) m2 m3 m4
        · -- one of them comes
          rw [hrun, hr]
          refine hKK _ _ ?_
          obtain ⟨hme1, hme2⟩ := mem_left hme
          obtain ⟨k, hk⟩ := List.mem_iff_getElem?.1 hme1
          obtain ⟨e, e1, e2⟩ := b6.getR k me (by simpa using hk)
          have he : e ∈ mh.ents := List.mem_of_getElem? e1
          have hheap : w2.heap = w1.heap := by rcases hw2 with rfl | rfl <;> rfl
          have hk2 : Kp { C with O := O, S := S } w1 { C with O := O, S := S } w2 := by rcases hw2 with rfl | rfl <;> exact Kp.same rfl rfl rfl rfl
          obtain ⟨W, hW⟩ : ∃ W, W = Go.ChangeMaps.setBlock w2 g (.mapIter (some gm) mh.since (seen.push me.born) mh.since) := ⟨_, rfl⟩
          rw [← hW]
          have hgl : g < w1.heap.size := (Array.getElem?_eq_some_iff.1 hg1).1
          have Wg : W.heap[g]? = some (.mapIter (some gm) mh.since (seen.push me.born) mh.since) := by
            rw [hW]; simp only [Go.ChangeMaps.setBlock]; rw [Array.getElem?_setIfInBounds_self_of_lt (by rw [hheap]; exact hgl)]
          have Wo : ∀ k, k ≠ g → W.heap[k]? = w1.heap[k]? := fun k hk => by
            rw [hW]; simp only [Go.ChangeMaps.setBlock]; rw [Array.getElem?_setIfInBounds_ne (Ne.symm hk), hheap]
          have Ws : W.heap.size = w1.heap.size := by rw [hW]; simp only [Go.ChangeMaps.setBlock, Array.size_setIfInBounds]; rw [hheap]
          have le2 : ∀ O2 : Nat → Prop, C.le { C with O := O2, S := S } := fun O2 => ⟨fun i hi => ⟨hi, rfl, rfl, rfl⟩, rfl, rfl, fun _ _ h => h⟩
          have h2 : HRel { C with O := fun k => k = gm, S := S } { st.hp with H := [(mh.bi, .mit mh.m mh.since (some e.born)), (mh.m, .mp mh.ents mh.since)] } W := by
            refine ⟨⟨fun b blk hb => ?_, fun b b' x x' g1 c1 c2 hx hx' hg1' hg2' => ?_⟩, h1.ext.keep (by omega) (fun k hk => Wo k fun e => hSg (e ▸ hk)), fun b blk g1 c1 hb hg => (hget_two hb).elim (fun q => by obtain ⟨rfl, rfl⟩ := q; simp only at hg; rw [b1] at hg; cases hg; exact hSg) (fun q => by obtain ⟨rfl, rfl⟩ := q; simp only at hg; rw [b3] at hg; cases hg; exact hSm), fun b blk g1 c1 hb hit hg => ?_, h1.free, fun b g1 c1 hb => by rw [Ws]; exact h1.blt b g1 c1 hb⟩
            · rcases hget_two hb with ⟨rfl, rfl⟩ | ⟨rfl, rfl⟩
              · exact ⟨g, c, b1, gm, c0, seen.push me.born, b3, Wg, (fun e => by cases e), fun b' e' => by cases e'; exact ⟨seen, by rw [e2.2.2]⟩⟩
              · exact ⟨gm, c0, b3, es, b6.mono fun _ _ k => Ent.rel.le (le2 _) k, by rw [Wo gm hgm]; exact hgm1⟩
            · rcases hget_two hx with ⟨rfl, rfl⟩ | ⟨rfl, rfl⟩ <;> rcases hget_two hx' with ⟨rfl, rfl⟩ | ⟨rfl, rfl⟩
              · rfl
              · simp only at hg1' hg2'; rw [b1] at hg1'; rw [b3] at hg2'; cases hg1'; cases hg2'; exact absurd rfl hgm
              · simp only at hg1' hg2'; rw [b3] at hg1'; rw [b1] at hg2'; cases hg1'; cases hg2'; exact absurd rfl hgm
              · rfl
            · rcases hget_two hb with ⟨rfl, rfl⟩ | ⟨rfl, rfl⟩
              · cases hit
              · simp only at hg; rw [b3] at hg; cases hg; rfl
          have hC2 : Ctx.Is { C with O := fun k => k = gm, S := S } X ft := hC
          have ha2 : ARel { C with O := fun k => k = gm, S := S } (St.put ⟨st.sz, st.tmps, mh.hp st.hp⟩ o.dst (.tup [.one (.bool (.tt true)), e.key, e.val]) { st.hp with H := [(mh.bi, .mit mh.m mh.since (some e.born)), (mh.m, .mp mh.ents mh.since)] }) (a1.put o.dst (.tuple #[.bool true, me.key, me.val])) := by
            refine ARel.put (C := { C with O := fun k => k = gm, S := S }) (ARel.le (C := { C with O := O, S := S }) ha1 ⟨fun i hi => ⟨hi, rfl, rfl, rfl⟩, rfl, rfl, fun _ _ h => h⟩) ?_ _ _
            exact ⟨[.bool true, me.key, me.val], .cons ⟨trivial, by simp [tr_tt]⟩ (.cons (PV.rel.le (le2 _) e2.1) (.cons (PV.rel.le (le2 _) e2.2.1) .nil)), rfl⟩
          have hx2 := T.bind_holds_det (hdet e he) (hgone e he)
          have hat : ∃ t, t = xround P tb cf ops o os kr ⟨st.sz, st.tmps, mh.hp st.hp⟩ mh e := ⟨_, rfl⟩
          obtain ⟨te, hte⟩ := hat
          rw [← hte] at hx2
          have hx3 : te.holds (fun V' r => V' = C.V ∧ te.at C.V = some r ∧ (xgone ⟨st.sz, st.tmps, mh.hp st.hp⟩ mh r).holds Φ C.V) C.V := hx2
          have hx4 : (xround P tb cf ops o os kr ⟨st.sz, st.tmps, mh.hp st.hp⟩ mh e).holds (fun V' r => V' = C.V ∧ te.at C.V = some r ∧ (xgone ⟨st.sz, st.tmps, mh.hp st.hp⟩ mh r).holds Φ C.V) C.V := hte ▸ hx3
          unfold xround at hx4
          rw [T.holds_bind] at hx4
          refine xlist_ok htb hcf os (C := { C with O := fun k => k = gm, S := S }) hC2 (by rw [St.put_hp]; exact h2) ha2 hx4 fun C3 st3 a3 w3 k1 k2 k3 k4 => ?_
          refine hkr hQ' (hC2.le k1.le) k2 k3 k4 fun C4 r a4 w4 m1 m2 m3 m4 => ?_
          have kk := k1.trans m1
          obtain ⟨mV, mat, mx⟩ := m4
          have hCle : C.le C4 := (le2 _).trans kk.le
          have hS4 : ∀ k, k < w1.heap.size → ¬ S k → ¬ C4.S k := fun k hk hs h => (kk.newS k h).elim hs (fun h => by rw [Ws] at h; omega)
          have hS5 : ∀ b blk g1 c1, hget (mh.hp st.hp).H b = some blk → C.bl b = some (g1, c1) → ¬ C4.S g1 := fun b blk g1 c1 hb hg => hS4 g1 (h1.blt b g1 c1 hg) (h1.apart b blk g1 c1 hb hg)
          have keepO : ∀ k, k < w1.heap.size → k ≠ g → k ≠ gm → ¬ S k → w4.heap[k]? = w1.heap[k]? := fun k hk h1 h2 h3 => (kk.keep k (by rw [Ws]; exact hk) h2 h3).trans (Wo k h1)
          have Wg4 : w4.heap[g]? = some (.mapIter (some gm) mh.since (seen.push me.born) mh.since) := (kk.keep g (by rw [Ws]; exact hgl) (fun e => hgm e.symm) hSg).trans Wg
          have hother : ∀ b blk, hget (mh.hp st.hp).H b = some blk → b ≠ mh.m → ∃ g1 c1, C.bl b = some (g1, c1) ∧ blk.rel { C with O := O, S := S } c1 w4.heap[g1]? := fun b blk hb hbm => by
            obtain ⟨g1, c1, q1, q2⟩ := h1.at_ b blk hb
            obtain ⟨r1, r2⟩ := hbi b blk hb
            refine ⟨g1, c1, q1, ?_⟩
            rw [keepO g1 q2.lt (fun e => r1 (h.inj _ _ _ _ g c1 c r2 o4 (e ▸ q1) b1)) (fun e => hbm (h.inj _ _ _ _ gm c1 c0 r2 o5 (e ▸ q1) b3)) (h1.apart b blk g1 c1 hb q1)]
            exact q2
          have hwt : W.tape = w1.tape ∧ W.os = w1.os ∧ W.output = w1.output := by rw [hW]; rcases hw2 with rfl | rfl <;> exact ⟨rfl, rfl, rfl⟩
          have kp : ∀ CC : Ctx, Ctx.le { C with O := O, S := S } CC → CC.S = C4.S → (∀ k, CC.O k → O k ∨ C4.O k) → (∀ b x, CC.bl b = some x → C4.bl b = some x) → Kp { C with O := O, S := S } w1 CC w4 := fun CC hle hS hO hbl => by
            refine ⟨hle, by rw [← Ws]; exact kk.size, kk.tape.trans hwt.1, kk.os.trans hwt.2.1, kk.output.trans hwt.2.2, fun k hk h1 h2 => ?_, fun k hk => ?_, fun k hk => ?_, fun b g1 c1 hb => ?_⟩
            · exact keepO k hk (fun e => h1 (e ▸ hOg)) (fun e => h1 (e ▸ hOm)) h2
            · rw [hS] at hk; rw [← Ws]; exact kk.newS k hk
            · rcases hO k hk with h | h
              · exact .inl h
              · rcases kk.new k h with h | h
                · exact .inl (by rw [show k = gm from h]; exact hOm)
                · exact .inr (by rw [← Ws]; exact h)
            · rcases kk.newbl b g1 c1 (hbl _ _ hb) with h | h
              · exact .inl h
              · exact .inr (by rw [← Ws]; exact h)
          have fin : ∀ (x : XE) (st4 : St), x ≠ .nrm → HRel C4 st4.hp w4 → ARel C4 st4 a4 → (xgone ⟨st.sz, st.tmps, mh.hp st.hp⟩ mh (x, st4)).holds Φ C.V → Q x.real a4 w4 := fun x st4 hx m2 m3 mx => by
            have mx' : Φ C.V (x, ⟨st4.sz, st4.tmps, { st4.hp with H := hdel (hdel (mh.hp st.hp).H mh.bi) mh.m }⟩) := by
              unfold xgone at mx
              cases x with
              | nrm => exact absurd rfl hx
              | ext id => exact mx
              | ret => exact mx
            refine hK { C4 with O := fun k => O k ∨ C4.O k } (x, ⟨st4.sz, st4.tmps, { st4.hp with H := hdel (hdel (mh.hp st.hp).H mh.bi) mh.m }⟩) a4 w4 (hk1.trans (kp _ ⟨kk.le.v, kk.le.f, kk.le.X, kk.le.bl⟩ rfl (fun k hk => hk) (fun _ _ h => h))) ?_ (ARel.hp (ARel.le (C := C4) (C' := { C4 with O := fun k => O k ∨ C4.O k }) m3 ⟨fun i hi => ⟨hi, rfl, rfl, rfl⟩, rfl, rfl, fun _ _ h => h⟩) _) (by rw [← mV] at mx'; exact mx')
            have hd : ∀ b blk, hget (hdel (hdel (mh.hp st.hp).H mh.bi) mh.m) b = some blk → b ≠ mh.m ∧ hget (mh.hp st.hp).H b = some blk := fun b blk hb => by
              obtain ⟨q1, q2⟩ := hget_del _ _ _ _ hb
              exact ⟨q1, (hget_del _ _ _ _ q2).2⟩
            refine ⟨⟨fun b blk hb => ?_, fun b b' y y' g1 c1 c2 hy hy' hg1' hg2' => ?_⟩, m2.ext, fun b blk g1 c1 hb hg => ?_, fun b blk g1 c1 hb hit hg => ?_, m2.free, m2.blt⟩
            · obtain ⟨q1, q2⟩ := hd b blk hb
              obtain ⟨g1, c1, r1, r2⟩ := hother b blk q2 q1
              exact ⟨g1, c1, hCle.bl _ _ r1, Blk.rel.le (C := { C with O := O, S := S }) (C' := { C4 with O := fun k => O k ∨ C4.O k }) ⟨kk.le.v, kk.le.f, kk.le.X, kk.le.bl⟩ r2⟩
            · obtain ⟨q1, q2⟩ := hd b y hy
              obtain ⟨q1', q2'⟩ := hd b' y' hy'
              obtain ⟨x1, x2, r1, _⟩ := hother b y q2 q1
              obtain ⟨x1', x2', r1', _⟩ := hother b' y' q2' q1'
              have e1 := hCle.bl _ _ r1
              have e1' := hCle.bl _ _ r1'
              simp only at hg1' hg2'
              rw [hg1'] at e1; rw [hg2'] at e1'
              cases e1; cases e1'
              exact h1.inj b b' y y' g1 c1 c2 q2 q2' r1 r1'
            · obtain ⟨q1, q2⟩ := hd b blk hb
              obtain ⟨x1, x2, r1, _⟩ := hother b blk q2 q1
              have e1 := hCle.bl _ _ r1
              simp only at hg
              rw [hg] at e1; cases e1
              exact hS5 b blk g1 c1 q2 r1
            · obtain ⟨q1, q2⟩ := hd b blk hb
              obtain ⟨x1, x2, r1, _⟩ := hother b blk q2 q1
              have e1 := hCle.bl _ _ r1
              simp only at hg
              rw [hg] at e1; cases e1
              exact .inl (h1.own b blk g1 c1 q2 hit r1)
          obtain ⟨x, st4⟩ := r
          cases x with
          | nrm =>
            unfold xgone at mx
            simp only at mx
            split at mx
            · rename_i hb
              obtain ⟨q1, q2, q4, q5⟩ := xback_ok hb
              show Code.rounds P (.seq (.region id ops false) rest) Q n a4 w4
              have hsz := left_shrinks es.toArray seen me hme
              obtain ⟨n', rfl⟩ : ∃ n', n = n' + 1 := ⟨n - 1, by omega⟩
              have hm4 : w4.heap[gm]? = some (.map es.toArray mh.since) := by
                obtain ⟨g5, c5, r1, es', r2, r3⟩ := m2.at_ _ _ q4
                rw [hCle.bl _ _ b3] at r1; cases r1
                have : es = es' := All2.fn (R := Ent.rel C4) (fun _ _ _ => Ent.rel.fn) (b6.mono fun _ _ k => Ent.rel.le hCle k) r2
                rw [r3, this]
              refine ih n' (by omega) (fun k => O k ∨ C4.O k) C4.S (seen.push me.born) a4 w4 (.inl hOg) (.inl hOm) (hS4 g hgl hSg) (hS4 gm (Array.getElem?_eq_some_iff.1 hgm1).1 hSm) ?_ ?_ Wg4 hm4 (by omega) (fun e' he' hs => ?_) (hk1.trans (kp _ ⟨fun i hi => ⟨hi, rfl, rfl, rfl⟩, rfl, rfl, fun _ _ h => h⟩ rfl (fun k hk => hk) (fun b x h => hCle.bl b x h)))
              · refine ⟨⟨fun b blk hb => ?_, h1.inj⟩, ?_, fun b blk g1 c1 hb hg => hS5 b blk g1 c1 hb hg, fun b blk g1 c1 hb hit hg => .inl (h1.own b blk g1 c1 hb hit hg), h1.free, fun b g1 c1 hb => m2.blt b g1 c1 (hCle.bl _ _ hb)⟩
                · by_cases hbm : b = mh.m
                  · subst hbm
                    have := (hbi _ _ hb).2
                    rw [o5] at this; cases this
                    exact ⟨gm, c0, b3, es, b6.mono fun _ _ k => Ent.rel.le (C := C) (C' := { C with O := fun k => O k ∨ C4.O k, S := C4.S }) ⟨fun i hi => ⟨hi, rfl, rfl, rfl⟩, rfl, rfl, fun _ _ h => h⟩ k, hm4⟩
                  · obtain ⟨g1, c1, r1, r2⟩ := hother b blk hb hbm
                    exact ⟨g1, c1, r1, Blk.rel.le (C := { C with O := O, S := S }) (C' := { C with O := fun k => O k ∨ C4.O k, S := C4.S }) ⟨fun i hi => ⟨hi, rfl, rfl, rfl⟩, rfl, rfl, fun _ _ h => h⟩ r2⟩
                · have := m2.ext.rel
                  rw [mV, hCle.X] at this
                  have q5' : st4.hp.gh.m = (mh.hp st.hp).gh.m := q5
                  simp only at this
                  rw [q5'] at this
                  exact ⟨C.X.back _ _ _ _ _ _ _ hCle.bl this h1.ext.rel, h1.ext.msc, h1.ext.facts, h1.ext.defs⟩
              · exact ARel.back (C := { C with O := fun k => O k ∨ C4.O k, S := C4.S }) (st := ⟨st.sz, st.tmps, mh.hp st.hp⟩) (ARel.le (C := { C with O := O, S := S }) ha1 ⟨fun i hi => ⟨hi, rfl, rfl, rfl⟩, rfl, rfl, fun _ _ h => h⟩) (C' := C4) ⟨hCle.v, hCle.f, hCle.X, hCle.bl⟩ m3 q1 q2
              · by_cases hs' : seen.contains e'.born = true
                · exact hseen e' he' hs'
                · have hb' : e'.born = me.born := by
                    simp only [Array.contains_push, Bool.or_eq_true, beq_iff_eq] at hs
                    rcases hs with hs | hs
                    · exact absurd hs hs'
                    · first | exact hs | exact hs.symm
                  have : e' = e := (o7 e' he').2 e he (hb'.trans e2.2.2)
                  rw [this, ← hte]
                  exact ⟨st4, mat⟩
            · exact mx.elim
          | ext id => exact fin (.ext id) st4 (by intro e; cases e) m2 m3 mx
          | ret => exact fin .ret st4 (by intro e; cases e) m2 m3 mx
    have hOg : C.O g := h.own _ _ g c o4 rfl b1
    have hOm : C.O gm := h.own _ _ gm c0 o5 rfl b3
    refine wp_loop_rounds _ (key (leftOf es.toArray #[]).size C.O C.S #[] a w hOg hOm (h.apart _ _ g c o4 b1) (h.apart _ _ gm c0 o5 b3) (h.del mh.bi) (ha.hp _) b4 b7 (Nat.le_refl _) (fun e he hs => by simp at hs) (.refl C w))
  · exact hx.elim
end
end
end Go.Proofs.YtkogjjeoihnjpaaGreat.Sx
end
section
set_option linter.unusedVariables false
set_option linter.unusedSimpArgs false
namespace Go.Proofs.YtkogjjeoihnjpaaGreat.Sx
open Go
noncomputable section
/-! ### statements -/
def xiter (body : St → XC) : Nat → St → XC
  | 0, _ => .bad "loop rounds"
  | n + 1, st => (body st).bind fun r => match r.1 with
    | .nrm => xiter body n r.2
    | _ => .ret r
def xregionD (P : Program) (tb : Tb) (cf : Cf) (ops : Array Oper) (st : St) : T St :=
  if Region.noSelect ops then
    bif xlinear .any ops ops.size 0 then xanyG P tb cf ops none ops.size 0 [] st else
    let s := (st.hp.lim - st.hp.nx) / (ops.size + 1)
    if ops.size * s ≤ st.hp.lim - st.hp.nx then
      (xanyG P tb cf ops (some (st.hp.nx, s)) ops.size 0 [] ⟨st.sz, st.tmps, st.hp.split ops.size s⟩).flat.bind fun st' =>
        if st.hp.rest.all (fun r => st'.hp.rest.contains r) then .ret ⟨st'.sz, st'.tmps, { st'.hp with rest := st.hp.rest }⟩ else .bad "numbers"
    else .bad "numbers"
  else .bad "select"
def xregion (P : Program) (tb : Tb) (cf : Cf) (ops : Array Oper) (st : St) : T St := xregionD P tb cf ops st
def Code.dsts : Code → List Nat
  | .region _ ops _ => ops.toList.filterMap (·.dst)
  | .seq a b => Code.dsts a ++ Code.dsts b
  | .cond _ a b => Code.dsts a ++ Code.dsts b
  | .block _ a => Code.dsts a
  | .loop a => Code.dsts a
  | .scope a => Code.dsts a
  | .rangeFunc _ _ a b => Code.dsts a ++ Code.dsts b
  | _ => []
def xloop (P : Program) (tb : Tb) (cf : Cf) (lf : Nat) (full tail : St → XC) (body : Code) (st : St) : XC :=
  match body with
  | .seq (.region id ops false) rest => match ops.toList with
    | o :: os => match xhead st o with
      | some _ => match xhead (st.blur (Code.dsts (.seq (.region id ops false) rest))) o with
        | some mh => xmap P tb cf ops o os tail ⟨(st.blur (Code.dsts (.seq (.region id ops false) rest))).sz, (st.blur (Code.dsts (.seq (.region id ops false) rest))).tmps, mh.hp (st.blur (Code.dsts (.seq (.region id ops false) rest))).hp⟩ mh
        | none => .bad "range head"
      | none => xiter full lf st
    | [] => xiter full lf st
  | _ => xiter full lf st
def xcode (P : Program) (tb : Tb) (cf : Cf) (lf : Nat) : Code → St → XC
  | .skip, st => .ret (.nrm, st)
  | .label _, st => .ret (.nrm, st)
  | .region _ ops draw, st =>
    if draw then (xregion P tb cf ops st).bind fun st' => .ret (.nrm, st')
    else (xlist P tb cf ops ops.toList st).bind fun st' => .ret (.nrm, st')
  | .seq a b, st => (xcode P tb cf lf a st).bind fun r => match r.1 with
    | .nrm => xcode P tb cf lf b r.2
    | _ => .ret r
  | .cond c a b, st => match xev st.hp.gh.k st.get c with
    | some (.pv (.one (.bool e))) => xif e st.hp (fun hp => xcode P tb cf lf a ⟨st.sz, st.tmps, hp⟩) (fun hp => xcode P tb cf lf b ⟨st.sz, st.tmps, hp⟩)
    | _ => .bad "cond"
  | .block id body, st => (xcode P tb cf lf body st).bind fun r => .ret (if r.1 = .ext id then .nrm else r.1, r.2)
  | .loop body, st => xloop P tb cf lf (xcode P tb cf lf body) (match body with | .seq _ rest => xcode P tb cf lf rest | _ => fun _ => .bad "loop") body st
  | .exit id, st => .ret (.ext id, st)
  | .ret, st => .ret (.ret, st)
  | .scope c, st => xcode P tb cf lf c st
  | .rangeFunc .., _ => .bad "rangeFunc"
  | .goto _, _ => .bad "goto"
  | .refuse _, _ => .bad "refuse"
section
variable {P : Program} {X : Ext} {ft : Ft} {tb : Tb} {cf : Cf}
theorem xregionD_ok (htb : TbOk P tb) (hcf : CfOk P X ft cf) (hm : P.follows .mixedOrders = true) {C : Ctx} {w : World} {st : St} {a : Act} {ops : Array Oper} {id : Nat} {Q : Exit → Act → World → Prop} (hQ : ∀ c a w, ¬ Q (.panic c) a w) {Φ : Env → St → Prop} (hC : C.Is X ft) (h : HRel C st.hp w) (ha : ARel C st a)
    (hx : (xregionD P tb cf ops st).holds Φ C.V) (hK : ∀ C' st' a' w', Kp C w C' w' → HRel C' st'.hp w' → ARel C' st' a' → Φ C'.V st' → Q .normal a' w') : (Code.region id ops true).wp P Q a w := by
  unfold xregionD at hx
  have kd : Kp C w C { w with drawn := w.drawn + 1 } := Kp.same rfl rfl rfl rfl
  have hcl : Closed .any ops (markA ops.size 0) := fun j oj _ hl => by
    rw [markA_zero] at hl
    rcases Nat.lt_or_ge j ops.size with h' | h'
    · simp [h'] at hl
    · simp [Array.getElem?_eq_none, h'] at hl
  split at hx
  · rename_i hns
    refine wp_region_any hm ?_
    rw [← markA_zero]
    refine wpAny_of_G (L := []) _ _ _ _ ?_
    cases hb : xlinear .any ops ops.size 0 with
    | true =>
      rw [hb, cond_true] at hx
      exact xanyG_ok (C0 := C) (w0 := { w with drawn := w.drawn + 1 }) htb hcf hns hQ (fun C' st' a' w' k1 k2 k3 k4 => hK C' st' a' w' (kd.trans k1) k2 k3 k4) ops.size hC (.refl _ _) (h.same rfl) ha (fun q hq => nomatch hq) hcl (D := []) (fun q hq => nomatch hq) Dn.nil (cnt_le_n _ _) hx
    | false =>
      rw [hb, cond_false] at hx
      simp only at hx
      split at hx
      · rename_i hs
        rw [T.holds_bind] at hx
        have hx := T.flat_holds hx
        have hd : HRel C (st.hp.split ops.size ((st.hp.lim - st.hp.nx) / (ops.size + 1))) { w with drawn := w.drawn + 1 } := (h.split _ _ hs).same rfl
        refine xanyG_ok (C0 := C) (w0 := { w with drawn := w.drawn + 1 }) htb hcf hns hQ (fun C' st' a' w' k1 k2 k3 k4 => ?_) ops.size (st := ⟨st.sz, st.tmps, st.hp.split ops.size ((st.hp.lim - st.hp.nx) / (ops.size + 1))⟩) hC (.refl _ _) hd (ha.hp _) (fun q hq => nomatch hq) hcl (D := []) (fun q hq => nomatch hq) Dn.nil (cnt_le_n _ _) hx
        split at k4
        · rename_i hr
          refine hK C' ⟨st'.sz, st'.tmps, { st'.hp with rest := st.hp.rest }⟩ a' w' (kd.trans k1) (k2.sub rfl fun b hb => ?_) (k3.hp _) k4
          rcases hb with hb | ⟨q, hq, h1, h2⟩
          · exact .inl hb
          · simp only at hq
            have := List.all_eq_true.1 hr q hq
            exact .inr ⟨q, by simpa using this, h1, h2⟩
        · exact k4.elim
      · exact hx.elim
  · exact hx.elim
theorem xregion_ok (htb : TbOk P tb) (hcf : CfOk P X ft cf) (hm : P.follows .mixedOrders = true) {C : Ctx} {w : World} {st : St} {a : Act} {ops : Array Oper} {id : Nat} {Q : Exit → Act → World → Prop} (hQ : ∀ c a w, ¬ Q (.panic c) a w) {Φ : Env → St → Prop} (hC : C.Is X ft) (h : HRel C st.hp w) (ha : ARel C st a)
    (hx : (xregion P tb cf ops st).holds Φ C.V) (hK : ∀ C' st' a' w', Kp C w C' w' → HRel C' st'.hp w' → ARel C' st' a' → Φ C'.V st' → Q .normal a' w') : (Code.region id ops true).wp P Q a w :=
  xregionD_ok htb hcf hm hQ hC h ha hx hK
def Good (P : Program) (X : Ext) (ft : Ft) (tb : Tb) (cf : Cf) (lf : Nat) (c : Code) : Prop :=
  ∀ {C : Ctx} {w : World} {st : St} {a : Act} {Q : Exit → Act → World → Prop} {Φ : Env → XE × St → Prop}, (∀ c a w, ¬ Q (.panic c) a w) → C.Is X ft → HRel C st.hp w → ARel C st a →
    (xcode P tb cf lf c st).holds Φ C.V → (∀ C' r a' w', Kp C w C' w' → HRel C' r.2.hp w' → ARel C' r.2 a' → Φ C'.V r → Q r.1.real a' w') → c.wp P Q a w
theorem xcode_both (htb : TbOk P tb) (hcf : CfOk P X ft cf) (hm : P.follows .mixedOrders = true) {lf : Nat} : ∀ (c : Code), Good P X ft tb cf lf c ∧ ∀ r rest, c = .seq r rest → Good P X ft tb cf lf rest := by
  intro c
  induction c with
  | skip =>
    refine ⟨?_, fun r rest e => by cases e⟩
    intro C w st a Q Φ hQ hC h ha hx hK; exact wp_skip (hK C _ a w (.refl C w) h ha hx)
  | label l =>
    refine ⟨?_, fun r rest e => by cases e⟩
    intro C w st a Q Φ hQ hC h ha hx hK; exact wp_label (hK C _ a w (.refl C w) h ha hx)
  | region id ops draw =>
    refine ⟨?_, fun r rest e => by cases e⟩
    intro C w st a Q Φ hQ hC h ha hx hK
    unfold xcode at hx
    split at hx
    · rename_i hd
      subst hd
      rw [T.holds_bind] at hx
      exact xregion_ok htb hcf hm hQ hC h ha hx fun C' st' a' w' k1 k2 k3 k4 => hK C' (.nrm, st') a' w' k1 k2 k3 k4
    · rename_i hd
      have hd : draw = false := by simpa using hd
      subst hd
      rw [T.holds_bind] at hx
      exact wp_region_list (xlist_ok htb hcf ops.toList hC h ha hx fun C' st' a' w' k1 k2 k3 k4 => hK C' (.nrm, st') a' w' k1 k2 k3 k4)
  | seq x y ihx ihy =>
    obtain ⟨ihx, ihx2⟩ := ihx
    obtain ⟨ihy, ihy2⟩ := ihy
    refine ⟨?_, fun r rest e => by cases e; exact ihy⟩
    intro C w st a Q Φ hQ hC h ha hx hK
    unfold xcode at hx
    rw [T.holds_bind] at hx
    refine wp_seq (ihx (Q := Exit.then (y.wp P Q) Q) (fun c a w hq => hQ c a w hq) hC h ha hx fun C' r a' w' k1 k2 k3 k4 => ?_)
    obtain ⟨e, st'⟩ := r
    cases e with
    | nrm => exact ihy hQ (hC.le k1.le) k2 k3 k4 fun C2 r2 a2 w2 m1 m2 m3 m4 => hK C2 r2 a2 w2 (k1.trans m1) m2 m3 m4
    | ext id => exact hK C' (.ext id, st') a' w' k1 k2 k3 k4
    | ret => exact hK C' (.ret, st') a' w' k1 k2 k3 k4
  | cond c x y ihx ihy =>
    obtain ⟨ihx, ihx2⟩ := ihx
    obtain ⟨ihy, ihy2⟩ := ihy
    refine ⟨?_, fun r rest e => by cases e⟩
    intro C w st a Q Φ hQ hC h ha hx hK
    unfold xcode at hx
    split at hx
    · rename_i e he
      obtain ⟨s, hv⟩ := ha.ev h.ks _ _ he
      obtain ⟨hpf, hf, _, _, _, _, _, _, hh⟩ := xif_holds h s hx
      refine wp_cond (t := e.tr C.V) hv ?_
      cases hb : e.tr C.V with
      | true => rw [if_pos rfl]; exact ihx (st := ⟨st.sz, st.tmps, hpf⟩) hQ hC hf (ha.hp _) (hh.1 hb) hK
      | false => rw [if_neg (by decide)]; exact ihy (st := ⟨st.sz, st.tmps, hpf⟩) hQ hC hf (ha.hp _) (hh.2 hb) hK
    · exact hx.elim
  | block id body ih =>
    obtain ⟨ih, ih2⟩ := ih
    refine ⟨?_, fun r rest e => by cases e⟩
    intro C w st a Q Φ hQ hC h ha hx hK
    unfold xcode at hx
    rw [T.holds_bind] at hx
    refine wp_block (ih (Q := Exit.inBlock id Q) (fun c a w hq => hQ c a w hq) hC h ha hx fun C' r a' w' k1 k2 k3 k4 => ?_)
    obtain ⟨e, st'⟩ := r
    have := hK C' (if e = .ext id then .nrm else e, st') a' w' k1 k2 k3 k4
    cases e with
    | nrm => simpa [XE.real, Exit.inBlock] using this
    | ext id' =>
      by_cases hid : id' = id
      · subst hid; simpa [XE.real, Exit.inBlock] using this
      · simpa [XE.real, Exit.inBlock, hid] using this
    | ret => simpa [XE.real, Exit.inBlock] using this
  | loop body ih =>
    obtain ⟨ih, ih2⟩ := ih
    refine ⟨?_, fun r rest e => by cases e⟩
    intro C w st a Q Φ hQ hC h ha hx hK
    have plain : (xiter (xcode P tb cf lf body) lf st).holds Φ C.V → (Code.loop body).wp P Q a w := fun hx => by
     refine wp_loop_rounds lf ?_
     have key : ∀ (n : Nat) {C : Ctx} {w : World} {st : St} {a : Act}, C.Is X ft → HRel C st.hp w → ARel C st a → (xiter (xcode P tb cf lf body) n st).holds Φ C.V →
         (∀ C' r a' w', Kp C w C' w' → HRel C' r.2.hp w' → ARel C' r.2 a' → Φ C'.V r → Q r.1.real a' w') → Code.rounds P body Q n a w := by
       intro n
       induction n with
       | zero => intro C w st a hC h ha hx hK; exact hx.elim
       | succ n ihn =>
         intro C w st a hC h ha hx hK
         unfold xiter at hx
         rw [T.holds_bind] at hx
         rw [rounds_succ]
         refine ih (Q := Exit.then (Code.rounds P body Q n) Q) (fun c a w hq => hQ c a w hq) hC h ha hx fun C' r a' w' k1 k2 k3 k4 => ?_
         obtain ⟨e, st'⟩ := r
         cases e with
         | nrm => exact ihn (hC.le k1.le) k2 k3 k4 fun C2 r2 a2 w2 m1 m2 m3 m4 => hK C2 r2 a2 w2 (k1.trans m1) m2 m3 m4
         | ext id => exact hK C' (.ext id, st') a' w' k1 k2 k3 k4
         | ret => exact hK C' (.ret, st') a' w' k1 k2 k3 k4
     exact key lf hC h ha hx hK
    unfold xcode xloop at hx
    split at hx
    · rename_i id ops rest
      split at hx
      · rename_i o os hops
        split at hx
        · split at hx
          · rename_i mh hmh
            exact xmap_ok htb hcf hops hQ (ih2 _ _ rfl) hC (by rw [St.blur_hp]; exact h) (ha.blur _) hmh hx hK
          · exact hx.elim
        · exact plain hx
      · exact plain hx
    · exact plain hx
  | exit id =>
    refine ⟨?_, fun r rest e => by cases e⟩
    intro C w st a Q Φ hQ hC h ha hx hK; exact wp_exit (hK C _ a w (.refl C w) h ha hx)
  | ret =>
    refine ⟨?_, fun r rest e => by cases e⟩
    intro C w st a Q Φ hQ hC h ha hx hK; exact wp_ret (hK C _ a w (.refl C w) h ha hx)
  | rangeFunc f ps x y ihx ihy =>
    obtain ⟨ihx, ihx2⟩ := ihx
    obtain ⟨ihy, ihy2⟩ := ihy
    refine ⟨?_, fun r rest e => by cases e⟩
    intro C w st a Q Φ hQ hC h ha hx hK; exact hx.elim
  | scope body ih =>
    obtain ⟨ih, ih2⟩ := ih
    refine ⟨?_, fun r rest e => by cases e⟩
    intro C w st a Q Φ hQ hC h ha hx hK
    refine wp_scope_straight (ih (Q := Exit.noGoto Q) (fun c a w hq => hQ c a w hq) hC h ha hx fun C' r a' w' k1 k2 k3 k4 => ?_)
    have := hK C' r a' w' k1 k2 k3 k4
    obtain ⟨e, st'⟩ := r
    cases e <;> exact this
  | goto l =>
    refine ⟨?_, fun r rest e => by cases e⟩
    intro C w st a Q Φ hQ hC h ha hx hK; exact hx.elim
  | refuse why =>
    refine ⟨?_, fun r rest e => by cases e⟩
    intro C w st a Q Φ hQ hC h ha hx hK; exact hx.elim
theorem xcode_ok (htb : TbOk P tb) (hcf : CfOk P X ft cf) (hm : P.follows .mixedOrders = true) {lf : Nat} (c : Code) {C : Ctx} {w : World} {st : St} {a : Act} {Q : Exit → Act → World → Prop} {Φ : Env → XE × St → Prop} (hQ : ∀ c a w, ¬ Q (.panic c) a w) (hC : C.Is X ft) (h : HRel C st.hp w) (ha : ARel C st a)
    (hx : (xcode P tb cf lf c st).holds Φ C.V) (hK : ∀ C' r a' w', Kp C w C' w' → HRel C' r.2.hp w' → ARel C' r.2 a' → Φ C'.V r → Q r.1.real a' w') : c.wp P Q a w :=
  (xcode_both htb hcf hm c).1 hQ hC h ha hx hK
end
end
end Go.Proofs.YtkogjjeoihnjpaaGreat.Sx
end
section
set_option linter.unusedVariables false
set_option linter.unusedSimpArgs false
namespace Go.Proofs.YtkogjjeoihnjpaaGreat.Sx
open Go
noncomputable section
def xres1 (P : Program) (st : St) : ResultVar → Option SV
  | .tmp t => some (st.get t)
  | .cell a t =>
    match st.get a with
    | .pv (.one (.ptr b o)) =>
      match hget st.hp.H b with
      | some (.cells row _ _ _) => (xread P t row o).map .pv
      | _ => none
    | _ => none
def xresL (P : Program) (st : St) : List ResultVar → Option (List SV)
  | [] => some []
  | r :: rs => match xres1 P st r, xresL P st rs with
    | some v, some vs => some (v :: vs)
    | _, _ => none
def asPVs : List SV → Option (List PV)
  | [] => some []
  | .pv p :: r => match asPVs r with | some l => some (p :: l) | none => none
  | _ => none
def xresults (P : Program) (fn : Func) (st : St) : XR :=
  match xresL P st fn.results.toList with
  | some [v] => .ret (v, st.hp)
  | some l => match asPVs l with
    | some ps => .ret (.tup ps, st.hp)
    | none => .bad "results"
  | none => .bad "results"
def putAll (k : Nat) : List SV → Nat → Tr → Tr
  | [], _, t => t
  | v :: vs, n, t => putAll k vs (n + 1) (t.set k n v)
def begin_ (sz : Nat) (args : List SV) (hp : Hp) : St := ⟨sz, putAll (lv sz) args 0 .nil, hp⟩
def xfunc1 (P : Program) (tb : Tb) (cf : Cf) (lf : Nat) (f : FuncId) (args : List SV) (hp : Hp) : XR :=
  match tb f with
  | some fn =>
    match fn.body with
    | some c =>
      natK (max args.length fn.ntmps) fun sz =>
      bif Nat.ble sz 1024 then
        (xcode P tb cf lf c (begin_ sz args hp)).bind fun r =>
          match r.1 with
          | .ext _ => .bad "exit"
          | _ => xresults P fn r.2
      else .bad "slots"
    | none => .bad "body"
  | none => .bad "function"
/-- contracts that are had already -/
abbrev Orc := FuncId → List SV → Hp → Option XR
def OrcOk (P : Program) (X : Ext) (ft : Ft) (orc : Orc) : Prop := ∀ f args hp t, orc f args hp = some t → ∀ (C : Ctx) (w : World) (vs : List Value), C.Is X ft → HRel C hp w → All2 (SV.rel C) args vs → CallOk P C w f vs.toArray t
def xfn (P : Program) (tb : Tb) (orc : Orc) (lf : Nat) : Nat → Cf
  | 0, _, _, _ => .bad "depth"
  | n + 1, f, args, hp => match orc f args hp with
    | some t => t
    | none => xfunc1 P tb (xfn P tb orc lf n) lf f args hp
def rdR (tmps : Array Value) : ResultVar → Sem Value
  | .tmp t => pure (tmps.getD t Go.undef)
  | .cell ad t => do loadVar t (← asAddr (tmps.getD ad Go.undef))
theorem results_rd (fn : Func) (tmps : Array Value) : results fn tmps = (do
    let vs ← fn.results.mapM (rdR tmps)
    pure (if h : vs.size = 1 then vs[0] else .tuple vs)) := by
  unfold results
  congr 1
section
variable {P : Program} {X : Ext} {ft : Ft} {tb : Tb} {cf : Cf} {C : Ctx} {w : World} {st : St} {a : Act}
theorem xres1_ok (h : HRel C st.hp w) (ha : ARel C st a) {r : ResultVar} {sv : SV} (hr : xres1 P st r = some sv) : ∃ v, sv.rel C v ∧ (rdR a.tmps r).run P w = .ok v w := by
  cases r with
  | tmp t =>
    simp only [xres1, Option.some.injEq] at hr
    subst hr
    exact ⟨_, ha.rel t, rfl⟩
  | cell ad t =>
    simp only [xres1] at hr
    have hg := ha.rel ad
    split at hr
    · rename_i b o hb
      rw [hb] at hg
      split at hr
      · rename_i row T es el hrow
        obtain ⟨p, hp1, rfl⟩ := Option.map_eq_some_iff.1 hr
        obtain ⟨g, c, k1, k2⟩ := hg
        obtain ⟨g', c', m1, vs, sp, m2, m3, _⟩ := h.at_ _ _ hrow
        rw [k1] at m1; cases m1
        obtain ⟨u, q1, q2⟩ := xread_ok (P := P) hp1 m2 m3
        exact ⟨u, q2, by simp only [rdR, k2, asAddr]; simpa using q1⟩
      · cases hr
    · cases hr
theorem xresL_ok (h : HRel C st.hp w) (ha : ARel C st a) : ∀ {rs : List ResultVar} {l : List SV}, xresL P st rs = some l → ∃ vs, All2 (SV.rel C) l vs ∧
    (rs.mapM (rdR a.tmps)).run P w = .ok vs w
  | [], l, hl => by cases hl; exact ⟨[], .nil, rfl⟩
  | r :: rs, l, hl => by
    unfold xresL at hl
    split at hl
    · rename_i v vs h1 h2
      cases hl
      obtain ⟨u, k1, k2⟩ := xres1_ok (P := P) h ha h1
      obtain ⟨us, m1, m2⟩ := xresL_ok h ha h2
      refine ⟨u :: us, .cons k1 m1, ?_⟩
      rw [List.mapM_cons]
      simp only [Sem.run_bind]
      rw [k2]
      simp only [Result.andThen_ok]
      rw [m2]
      rfl
    · cases hl
theorem asPVs_ok : ∀ {l : List SV} {ps : List PV} {vs : List Value}, asPVs l = some ps → All2 (SV.rel C) l vs → All2 (PV.rel C) ps vs
  | [], ps, vs, h, hv => by cases hv; cases h; exact .nil
  | x :: xs, ps, vs, h, hv => by
    cases hv with
    | cons h1 h2 =>
      unfold asPVs at h
      split at h
      · rename_i e; cases e
      · rename_i p r e
        cases e
        split at h
        · rename_i l hl
          cases h
          exact .cons h1 (asPVs_ok hl h2)
        · cases h
      · cases h
theorem xresults_ok (h : HRel C st.hp w) (ha : ARel C st a) {fn : Func} {Φ : Env → SV × Hp → Prop} (hx : (xresults P fn st).holds Φ C.V) : ∃ v sv, (results fn a.tmps).run P w = .ok v w ∧ sv.rel C v ∧ Φ C.V (sv, st.hp) := by
  unfold xresults at hx
  have run : ∀ {l : List SV} {vs : List Value}, All2 (SV.rel C) l vs → (fn.results.toList.mapM (rdR a.tmps)).run P w = .ok vs w →
      (results fn a.tmps).run P w = .ok (if h : vs.toArray.size = 1 then vs.toArray[0] else .tuple vs.toArray) w := by
    intro l vs h2 h3
    rw [results_rd, Array.mapM_eq_mapM_toList]
    simp only [Sem.run_bind, Sem.run_map, h3, Result.andThen_ok]
    rfl
  split at hx
  · rename_i v hl
    obtain ⟨vs, k1, k2⟩ := xresL_ok (P := P) h ha hl
    have hr := run k1 k2
    cases k1 with
    | @cons _ u _ us m1 m2 =>
      cases m2
      exact ⟨u, v, by simpa using hr, m1, hx⟩
  · rename_i l hne hl
    split at hx
    · rename_i ps hps
      obtain ⟨vs, k1, k2⟩ := xresL_ok (P := P) h ha hl
      have hr := run k1 k2
      refine ⟨.tuple vs.toArray, .tup ps, ?_, ⟨vs, asPVs_ok hps k1, rfl⟩, hx⟩
      rw [hr]
      rw [dif_neg]
      intro h1
      have h2 := k1.length
      simp at h1
      match l, h2 with
      | [x], _ => exact hne x rfl
      | [], h2 => simp at h2; omega
      | x :: y :: z, h2 => simp at h2; omega
    · exact hx.elim
  · exact hx.elim
theorem putAll_get {k : Nat} : ∀ (vs : List SV) (n : Nat) (t : Tr) (m : Nat), n + vs.length ≤ 2 ^ k → m < 2 ^ k → (putAll k vs n t).get k m = if n ≤ m ∧ m < n + vs.length then vs.getD (m - n) SV.undef else t.get k m
  | [], n, t, m, h, hm => by
    simp only [putAll, List.length_nil, Nat.add_zero]
    rw [if_neg (by omega)]
  | v :: vs, n, t, m, h, hm => by
    simp only [List.length_cons] at h
    simp only [putAll, List.length_cons]
    rw [putAll_get vs (n + 1) _ m (by omega) hm, Tr.get_set k _ _ _ _ (by omega) (by omega)]
    by_cases e : m = n
    · subst e
      rw [if_neg (by omega), if_pos rfl, if_pos (by omega)]
      simp
    · by_cases e2 : n + 1 ≤ m ∧ m < n + 1 + vs.length
      · rw [if_pos e2, if_pos (by omega)]
        have : m - n = (m - (n + 1)) + 1 := by omega
        rw [this, List.getD_cons_succ]
      · rw [if_neg e2, if_neg e, if_neg (by omega)]
theorem begin_rel {args : List SV} {vs : List Value} (hv : All2 (SV.rel C) args vs) (nt : Nat) (hs : max args.length nt ≤ 1024) (hp : Hp) :
    ARel C (begin_ (max args.length nt) args hp) { tmps := vs.toArray ++ Array.replicate (nt - vs.toArray.size) Go.undef, defers := [] } := by
  have hl := hv.length
  refine ⟨?_, hs, fun n => ?_, rfl⟩
  · simp only [begin_, Array.size_append, List.size_toArray, Array.size_replicate]; omega
  · rw [St.get_eq]
    unfold begin_
    simp only
    cases hb : Nat.blt n (max args.length nt) with
    | true =>
      have hn : n < max args.length nt := blt_true.1 hb
      rw [cond_true, Tr.getR_eq, putAll_get args 0 _ n (by have := le_lv (Nat.le_max_left args.length nt); omega) (lt_lv hn)]
      by_cases e : n < args.length
      · rw [if_pos (by omega), Nat.sub_zero]
        obtain ⟨v, k1, k2⟩ := hv.get n args[n] (by simp [e])
        have e1 : args.getD n SV.undef = args[n] := by simp [List.getD, e]
        have e2 : (vs.toArray ++ Array.replicate (nt - vs.toArray.size) Go.undef).getD n Go.undef = v := by
          have : n < vs.length := by omega
          rw [Array.getD_eq_getD_getElem?, Array.getElem?_append_left (by simpa using this)]
          simp [k1]
        rw [e1, e2]; exact k2
      · rw [if_neg (by omega), Tr.get_nil]
        have e2 : (vs.toArray ++ Array.replicate (nt - vs.toArray.size) Go.undef).getD n Go.undef = Go.undef := by
          rw [Array.getD_eq_getD_getElem?, Array.getElem?_append_right (by simp; omega)]
          simp only [Array.getElem?_replicate]
          split <;> rfl
        rw [e2]; rfl
    | false =>
      have hn := blt_false hb
      have e2 : (vs.toArray ++ Array.replicate (nt - vs.toArray.size) Go.undef).getD n Go.undef = Go.undef := by
        rw [Array.getD_eq_getD_getElem?, Array.getElem?_eq_none (by simp; omega)]
        rfl
      rw [cond_false, e2]; rfl
theorem xfunc1_ok (htb : TbOk P tb) (hcf : CfOk P X ft cf) (hm : P.follows .mixedOrders = true) (lf : Nat) : CfOk P X ft (xfunc1 P tb cf lf) := by
  intro f args hp C w vs hC h hv Φ hx
  unfold xfunc1 at hx
  split at hx
  · rename_i fn hf
    obtain ⟨h1, _, c0, h3⟩ := htb f fn hf
    split at hx
    · rename_i c hc
      rw [natK_eq] at hx
      cases hb : Nat.ble (max args.length fn.ntmps) 1024 with
      | false => rw [hb, cond_false] at hx; exact hx.elim
      | true =>
      rw [hb, cond_true, T.holds_bind] at hx
      have ha := begin_rel hv fn.ntmps (Nat.le_of_ble_eq_true hb) hp
      refine calls_of_wp h1 hc ?_
      refine xcode_ok htb hcf hm c ?_ hC h ha hx fun C' r a' w' k1 k2 k3 k4 => ?_
      · rintro ch a w ⟨_, C', v, sv, hp', e, _⟩; cases e
      · obtain ⟨e, st'⟩ := r
        cases e with
        | ext id => exact k4.elim
        | nrm =>
          obtain ⟨v, sv, m1, m2, m3⟩ := xresults_ok (P := P) k2 k3 k4
          exact ⟨k3.defers, v, m1, C', v, sv, st'.hp, rfl, m2, k2, k1, m3⟩
        | ret =>
          obtain ⟨v, sv, m1, m2, m3⟩ := xresults_ok (P := P) k2 k3 k4
          exact ⟨k3.defers, v, m1, C', v, sv, st'.hp, rfl, m2, k2, k1, m3⟩
    · exact hx.elim
  · exact hx.elim
theorem xfn_ok (htb : TbOk P tb) {orc : Orc} (ho : OrcOk P X ft orc) (hm : P.follows .mixedOrders = true) (lf : Nat) : ∀ n, CfOk P X ft (xfn P tb orc lf n) := by
  intro n
  induction n with
  | zero => intro f args hp C w vs hC h hv Φ hx; exact hx.elim
  | succ n ih =>
    intro f args hp C w vs hC h hv
    unfold xfn
    split
    · rename_i t ht
      exact ho f args hp t ht C w vs hC h hv
    · exact xfunc1_ok htb ih hm lf f args hp C w vs hC h hv
end
def noOrc : Orc := fun _ _ _ => none
theorem noOrc_ok (P : Program) (X : Ext) (ft : Ft) : OrcOk P X ft noOrc := fun _ _ _ _ h => nomatch h
end
end Go.Proofs.YtkogjjeoihnjpaaGreat.Sx
end
section
set_option linter.unusedVariables false
set_option linter.unusedSimpArgs false
namespace Go.Proofs.YtkogjjeoihnjpaaGreat.Sx
open Go Go.RowKit
/-- a table by number -/
inductive BT (α : Type) where
  | leaf
  | node (k : Nat) (v : α) (l r : BT α)
def BT.get {α : Type} : BT α → Nat → Option α
  | .leaf, _ => none
  | .node k v l r, n => bif Nat.beq n k then some v else bif Nat.blt n k then l.get n else r.get n
def BT.All {α : Type} (p : Nat → α → Prop) : BT α → Prop
  | .leaf => True
  | .node k v l r => p k v ∧ l.All p ∧ r.All p
theorem BT.get_all {α : Type} {p : Nat → α → Prop} : ∀ {t : BT α} {n : Nat} {v : α}, t.All p → t.get n = some v → p n v
  | .leaf, n, v, h, hg => nomatch hg
  | .node k x l r, n, v, h, hg => by
    unfold BT.get at hg
    cases hb : Nat.beq n k with
    | true =>
      rw [hb, cond_true] at hg
      cases hg
      have : n = k := Nat.eq_of_beq_eq_true hb
      rw [this]; exact h.1
    | false =>
      rw [hb, cond_false] at hg
      cases hl : Nat.blt n k with
      | true => rw [hl, cond_true] at hg; exact BT.get_all h.2.1 hg
      | false => rw [hl, cond_false] at hg; exact BT.get_all h.2.2 hg
def FnOk (P : Program) (g : Nat) (fn : Func) : Prop := P.funcs[g]? = some fn ∧ (fn.name == "runtime.NumGoroutine") = false ∧ ∃ c, fn.body = some c
theorem tbOk_of {P : Program} {t : BT Func} (h : t.All (FnOk P)) : TbOk P t.get := fun g fn hg => BT.get_all h hg
/-- every end is such -/
def T.every {α : Type} (p : α → Bool) : T α → Bool
  | .ret a => p a
  | .ite _ t e => t.every p && e.every p
  | .both t e => t.every p && e.every p
  | .lets _ _ _ _ t => t.every p
  | .bad _ => false
  | .skip => true
theorem T.every_holds {α : Type} {p : α → Bool} : ∀ {t : T α} {V : Env}, t.every p = true → t.holds (fun _ a => p a = true) V
  | .ret a, V, h => h
  | .ite c t e, V, h => by
    simp only [T.every, Bool.and_eq_true] at h
    exact ⟨fun _ => T.every_holds h.1, fun _ => T.every_holds h.2⟩
  | .both t e, V, h => by
    simp only [T.every, Bool.and_eq_true] at h
    exact ⟨T.every_holds h.1, T.every_holds h.2⟩
  | .lets f as s n t, V, h => T.every_holds (t := t) h
  | .bad _, V, h => nomatch h
  | .skip, V, h => trivial
/-- no block is known, no variable -/
def hp0 : Hp := ⟨[], 0, 1606938044258990275541962092341162602522202993782792835301376, [], gh0⟩
def ctx0 (V : Env) : Ctx := ⟨V, fun _ => False, fun _ => none, noExt, fun _ => False, fun _ => False⟩
theorem hrel0 (V : Env) (w : World) : HRel (ctx0 V) hp0 w := ⟨⟨fun b blk h => by simp [hp0, hget] at h, fun b b' blk blk' g c c' h => by simp [hp0, hget] at h⟩, gh0_ok _ _ _ _, (fun b blk g c h => by simp [hp0, hget] at h), (fun b blk g c h => by simp [hp0, hget] at h), fun b _ => ⟨rfl, fun h => h⟩, fun b g c h => nomatch h⟩
theorem Kp.below {V : Env} {w : World} {C' : Ctx} {w' : World} (h : Kp (ctx0 V) w C' w') : Below w.heap.size w w' :=
  ⟨h.os, h.tape, h.output, h.size, fun k hk => h.keep k hk (fun e => e) (fun e => e)⟩
end Go.Proofs.YtkogjjeoihnjpaaGreat.Sx
end
section
set_option linter.unusedVariables false
set_option linter.unusedSimpArgs false
namespace Go.Proofs.YtkogjjeoihnjpaaGreat.Sx
open Go Go.RowKit
/-- what is known of a test -/
def look (c : E) : List (E × Bool) → Option Bool
  | [] => none
  | (e, b) :: r => if e = c then some b else look c r
theorem look_ok {V : Env} {c : E} : ∀ {k : List (E × Bool)} {b : Bool}, (∀ q ∈ k, q.1.tr V = q.2) → look c k = some b → c.tr V = b
  | [], b, _, h => nomatch h
  | (e, b0) :: r, b, hk, h => by
    unfold look at h
    split at h
    · rename_i he; cases h; subst he; exact hk _ List.mem_cons_self
    · exact look_ok (fun q hq => hk q (List.mem_cons_of_mem _ hq)) h
/-- every end is such that what is known leads to -/
def T.everyU {α : Type} (k : List (E × Bool)) (p : α → Bool) : T α → Bool
  | .ret a => p a
  | .ite c t e => match look c k with
    | some true => t.everyU k p
    | some false => e.everyU k p
    | none => t.everyU k p && e.everyU k p
  | .both t e => t.everyU k p && e.everyU k p
  | .lets _ _ _ _ _ => false
  | .bad _ => false
  | .skip => true
theorem T.everyU_holds {α : Type} {k : List (E × Bool)} {p : α → Bool} {V : Env} (hk : ∀ q ∈ k, q.1.tr V = q.2) : ∀ {t : T α}, t.everyU k p = true → t.holds (fun _ a => p a = true) V
  | .ret a, h => h
  | .ite c t e, h => by
    simp only [T.everyU] at h
    split at h
    · rename_i hl
      have := look_ok hk hl
      exact ⟨fun _ => T.everyU_holds hk h, fun hc => by rw [this] at hc; cases hc⟩
    · rename_i hl
      have := look_ok hk hl
      exact ⟨fun hc => by (rw [this] at hc; cases hc), fun _ => T.everyU_holds hk h⟩
    · simp only [Bool.and_eq_true] at h
      exact ⟨fun _ => T.everyU_holds hk h.1, fun _ => T.everyU_holds hk h.2⟩
  | .both t e, h => by
    simp only [T.everyU, Bool.and_eq_true] at h
    exact ⟨T.everyU_holds hk h.1, T.everyU_holds hk h.2⟩
  | .lets f as s n t, h => nomatch h
  | .bad _, h => nomatch h
  | .skip, h => trivial
/-- does this cell have that form? -/
def fit1 (x y : SC) (p : Nat) : Bool :=
  match x, y with
  | .int k (.var lo hi i), .int k' (.lit n) => decide (k = k') && Nat.beq i p && Nat.blt p 1000 && decide (lo ≤ n) && decide (n ≤ hi)
  | .int k (.lit m), .int k' (.lit n) => decide (k = k') && decide (m = n)
  | .bool (.tt a), .bool (.tt b) => a == b
  | _, _ => false
/-- do these cells have that form? -/
def fitsG : List SC → List SC → Nat → Bool
  | [], [], _ => true
  | x :: g, y :: c, p => fit1 x y p && fitsG g c (p + 1)
  | _, _, _ => false
def litAt (cs : List SC) (i : Nat) : Int :=
  match cs[i]? with
  | some (.int _ (.lit n)) => n
  | _ => 0
def envOf (cs : List SC) : Env := ⟨litAt cs, fun _ => false, fun _ => Go.undef, fun _ _ => []⟩
def hp1 : Hp := ⟨[], 1000, 1606938044258990275541962092341162602522202993782792835301376, [], gh0⟩
def ctx1 (V : Env) : Ctx := ⟨V, fun i => i < 1000, fun _ => none, noExt, fun _ => False, fun _ => False⟩
theorem hrel1 (V : Env) (w : World) : HRel (ctx1 V) hp1 w := ⟨⟨fun b blk h => by simp [hp1, hget] at h, fun b b' blk blk' g c c' h => by simp [hp1, hget] at h⟩, gh0_ok _ _ _ _, (fun b blk g c h => by simp [hp1, hget] at h), (fun b blk g c h => by simp [hp1, hget] at h), fun b hb => ⟨rfl, fun h => by
  rcases hb with ⟨h1, _⟩ | ⟨r, hr, _⟩
  · simp only [hp1] at h1; exact absurd h (by show ¬ b < 1000; omega)
  · simp [hp1] at hr⟩, fun b g c h => nomatch h⟩
theorem fit1_rel {C : Ctx} {V : Env} {x y : SC} {p : Nat} (hf : fit1 x y p = true) {u : Value} (h1 : y.rel C u) (hV : ∀ k n, y = .int k (.lit n) → V.i p = n) : x.rel (ctx1 V) u := by
  unfold fit1 at hf
  split at hf
  · rename_i k lo hi i k' n
    simp only [Bool.and_eq_true, decide_eq_true_eq] at hf
    obtain ⟨⟨⟨⟨rfl, hi'⟩, hp⟩, hlo⟩, hhi⟩ := hf
    have hi' : i = p := Nat.eq_of_beq_eq_true hi'
    have hp : p < 1000 := by simpa [Nat.blt_eq] using hp
    subst hi'
    have hv : V.i i = n := hV k n rfl
    refine ⟨⟨hp, by rw [show (ctx1 V).V.i i = V.i i from rfl, hv]; exact hlo, by rw [show (ctx1 V).V.i i = V.i i from rfl, hv]; exact hhi⟩, ?_⟩
    rw [h1.2]
    show Value.int k n = Value.int k (V.i i)
    rw [hv]
  · rename_i k m k' n
    simp only [Bool.and_eq_true, decide_eq_true_eq] at hf
    obtain ⟨rfl, rfl⟩ := hf
    exact ⟨trivial, h1.2⟩
  · rename_i a b
    rw [beq_iff_eq] at hf
    subst hf
    exact ⟨trivial, h1.2⟩
  · cases hf
theorem fits_rel {C : Ctx} {V : Env} : ∀ {g c : List SC} {us : List Value} {p : Nat}, fitsG g c p = true → All2 (SC.rel C) c us → (∀ i k n, c[i]? = some (.int k (.lit n)) → V.i (p + i) = n) → All2 (SC.rel (ctx1 V)) g us
  | [], [], us, p, _, h, _ => by cases h; exact .nil
  | x :: g, y :: c, us, p, hf, h, hV => by
    cases h with
    | @cons _ u _ us h1 h2 =>
      simp only [fitsG, Bool.and_eq_true] at hf
      refine .cons (fit1_rel hf.1 h1 fun k n e => by subst e; exact hV 0 k n (by simp)) (fits_rel hf.2 h2 fun i k n hi => ?_)
      have := hV (i + 1) k n (by simpa using hi)
      rwa [show p + 1 + i = p + (i + 1) by omega]
  | [], y :: c, us, p, hf, _, _ => by simp [fitsG] at hf
  | x :: g, [], us, p, hf, _, _ => by simp [fitsG] at hf
/-- it is b -/
def SV.isB (b : Bool) : SV → Bool
  | .pv (.one (.bool (.tt x))) => x == b
  | _ => false
theorem SV.isB_ok {b : Bool} {sv : SV} (h : sv.isB b = true) : sv = .sc (.bool (.tt b)) := by
  unfold SV.isB at h
  split at h
  · rw [beq_iff_eq.1 h]
  · cases h
def memoOrc (f0 : FuncId) (gen : List SC) (facts : List (E × Bool)) (b : Bool) : Orc := fun f args hp =>
  bif Nat.beq f f0 then
    match args with
    | [.pv (.agg cs)] => bif fitsG gen cs 0 && facts.all (fun q => q.1.tr (envOf cs) == q.2) then some (.ret (.sc (.bool (.tt b)), hp)) else none
    | _ => none
  else none
theorem Kp.rest {C : Ctx} {V : Env} {C' : Ctx} {hp : Hp} {w w' : World} (h : HRel C hp w) (k : Kp (ctx1 V) w C' w') : HRel C hp w' ∧ Kp C w C w' := by
  have keep : ∀ g, g < w.heap.size → w'.heap[g]? = w.heap[g]? := fun g hg => k.keep g hg (fun e => e) (fun e => e)
  refine ⟨⟨⟨fun b blk hb => ?_, h.inj⟩, h.ext.keep k.size (fun g hg => keep g (h.ext.lt g hg)), h.apart, h.own, h.free, fun b g c hb => Nat.lt_of_lt_of_le (h.blt b g c hb) k.size⟩, .refl C, k.size, k.tape, k.os, k.output, fun g hg _ _ => keep g hg, fun _ h => .inl h, fun _ h => .inl h, fun b _ c h => .inl ⟨b, c, h⟩⟩
  obtain ⟨g, c, k1, k2⟩ := h.at_ b blk hb
  exact ⟨g, c, k1, by rw [keep g k2.lt]; exact k2⟩
theorem memo_ok {P : Program} {tb : Tb} (htb : TbOk P tb) (hm : P.follows .mixedOrders = true) {f0 : FuncId} {gen : List SC} {facts : List (E × Bool)} {b : Bool} {lf n : Nat}
    (hr : (xfn P tb noOrc lf n f0 [.pv (.agg gen)] hp1).everyU facts (fun a => a.1.isB b) = true) (X : Ext) (ft : Ft) : OrcOk P X ft (memoOrc f0 gen facts b) := by
  intro f args hp t ht C w vs hC h hv Φ hx
  unfold memoOrc at ht
  cases hb : Nat.beq f f0 with
  | false => rw [hb, cond_false] at ht; cases ht
  | true =>
    rw [hb, cond_true] at ht
    have hf : f = f0 := Nat.eq_of_beq_eq_true hb
    subst hf
    split at ht
    · rename_i cs
      cases hc : (fitsG gen cs 0 && facts.all (fun q => q.1.tr (envOf cs) == q.2)) with
      | false => rw [hc, cond_false] at ht; cases ht
      | true =>
        rw [hc, cond_true] at ht
        cases ht
        simp only [Bool.and_eq_true, List.all_eq_true, beq_iff_eq] at hc
        obtain ⟨hc1, hc2⟩ := hc
        cases hv with
        | @cons _ v _ vs h1 h2 =>
          cases h2
          obtain ⟨us, hu, rfl⟩ := h1
          have hfit : All2 (SC.rel (ctx1 (envOf cs))) gen us := fits_rel hc1 hu fun i k n hi => by
            show litAt cs (0 + i) = n
            rw [Nat.zero_add]; unfold litAt; rw [hi]
          have := xfn_ok (X := noExt) (ft := (envOf cs).f) htb (noOrc_ok P _ _) hm lf n f [.pv (.agg gen)] hp1 (ctx1 (envOf cs)) w [.agg us.toArray] ⟨rfl, rfl, fun _ _ h => nomatch h⟩ (hrel1 _ w) (.cons ⟨us, hfit, rfl⟩ .nil)
            (fun _ a => a.1.isB b = true) (T.everyU_holds hc2 hr)
          refine this.mono fun e w' hh => ?_
          obtain ⟨C', v', sv, hp', he, hrel, hH, hK, hb'⟩ := hh
          have := SV.isB_ok hb'
          simp only at this
          subst this
          obtain ⟨k1, k2⟩ := hK.rest h
          exact ⟨C, v', .sc (.bool (.tt b)), hp, he, ⟨trivial, hrel.2⟩, k1, k2, hx⟩
    · cases ht
end Go.Proofs.YtkogjjeoihnjpaaGreat.Sx
end
section
set_option linter.unusedVariables false
set_option linter.unusedSimpArgs false
namespace Go.Proofs.YtkogjjeoihnjpaaGreat.Sx
open Go Go.RowKit Go.WideShapes
/-- cells of one kind: numbers, truths -/
def plainT (P : Program) (u : TypeId) : Bool :=
  match P.underlying u with
  | some (.int _) => true
  | some .bool => true
  | _ => false
def onesB (P : Program) (t : TypeId) (n : Nat) : Bool :=
  match P.cellTypes P.depth t with
  | some ts => ts.all (plainT P) && Nat.beq (P.cellsOf t) n && !ts.isEmpty
  | none => false
theorem plain_one {P : Program} {w : World} {r : Go.Reach} {b : Nat} {u : TypeId} {v : Value} (hu : plainT P u = true) (h : Cell.okWide P w r b u v) : v.oneCell' = true := by
  unfold plainT at hu
  split at hu
  · rename_i k hk
    unfold Cell.okWide at h
    rw [hk] at h
    simp only at h
    unfold Cell.ok at h
    rw [hk] at h
    cases v <;> first | rfl | exact h.elim | simp at h
  · rename_i hk
    unfold Cell.okWide at h
    rw [hk] at h
    simp only at h
    unfold Cell.ok at h
    rw [hk] at h
    cases v <;> first | rfl | exact h.elim | simp at h
  · cases hu
theorem agg_ones {P : Program} {w : World} {r : Go.Reach} {b n : Nat} {t : TypeId} {fs : Array Field} (ht : P.underlying t = some (.struct fs)) (hb : onesB P t n = true) {v : Value} (h : Value.okWide P w r b t v) : ∃ cs : List Value, v = .agg cs.toArray ∧ cs.length = n ∧ ∀ c ∈ cs, c.oneCell' = true := by
  unfold Value.okWide at h
  rw [ht] at h
  simp only at h
  obtain ⟨cs, rfl, hs, ts, h1, _, h3⟩ := h
  unfold onesB at hb
  rw [h1] at hb
  simp only [Bool.and_eq_true] at hb
  obtain ⟨⟨hb1, hb2⟩, hb3⟩ := hb
  refine ⟨cs.toList, by simp, by simp [hs, Nat.eq_of_beq_eq_true hb2], fun c hc => ?_⟩
  obtain ⟨i, hi⟩ := List.mem_iff_getElem?.1 hc
  obtain ⟨u, k1, k2⟩ := h3 i c (by simpa using hi)
  exact plain_one (List.all_eq_true.1 hb1 u (List.mem_of_getElem? k1)) k2
/-- cells that are not looked into, numbered -/
def exts : Nat → Nat → List SC
  | _, 0 => []
  | i, n + 1 => .ext i :: exts (i + 1) n
theorem exts_rel {C : Ctx} : ∀ {cs : List Value} {i : Nat}, (∀ j c, cs[j]? = some c → C.V.x (i + j) = c ∧ C.vd (i + j) ∧ c.oneCell' = true) → All2 (SC.rel C) (exts i cs.length) cs
  | [], i, _ => .nil
  | c :: cs, i, h => by
    obtain ⟨k1, k2, k3⟩ := h 0 c (by simp)
    refine .cons ⟨k2, k1.symm, k3⟩ (exts_rel fun j c hj => ?_)
    have := h (j + 1) c (by simpa using hj)
    rwa [show i + 1 + j = i + (j + 1) by omega]
/-- one contract, or the other -/
def orcOr (a b : Orc) : Orc := fun f args hp =>
  match a f args hp with
  | some t => some t
  | none => b f args hp
theorem orcOr_ok {P : Program} {X : Ext} {ft : Ft} {a b : Orc} (ha : OrcOk P X ft a) (hb : OrcOk P X ft b) : OrcOk P X ft (orcOr a b) := by
  intro f args hp t h
  unfold orcOr at h
  split at h
  · rename_i t' ht; cases h; exact ha f args hp _ ht
  · exact hb f args hp t h
/-- a function without arguments that answers b -/
def memo0 (f0 : FuncId) (b : Bool) : Orc := fun f args hp =>
  bif Nat.beq f f0 then
    match args with
    | [] => some (.ret (.sc (.bool (.tt b)), hp))
    | _ => none
  else none
theorem memo0_ok {P : Program} {tb : Tb} (htb : TbOk P tb) (hm : P.follows .mixedOrders = true) {f0 : FuncId} {b : Bool} {lf n : Nat} {orc : Orc} (ho : ∀ X ft, OrcOk P X ft orc)
    (hr : (xfn P tb orc lf n f0 [] hp1).every (fun a => a.1.isB b) = true) (X : Ext) (ft : Ft) : OrcOk P X ft (memo0 f0 b) := by
  intro f args hp t ht C w vs hC h hv Φ hx
  unfold memo0 at ht
  cases hb : Nat.beq f f0 with
  | false => rw [hb, cond_false] at ht; cases ht
  | true =>
    rw [hb, cond_true] at ht
    have hf : f = f0 := Nat.eq_of_beq_eq_true hb
    subst hf
    split at ht
    · cases ht
      cases hv
      have := xfn_ok (X := noExt) (ft := (envOf []).f) htb (ho noExt (envOf []).f) hm lf n f [] hp1 (ctx1 (envOf [])) w [] ⟨rfl, rfl, fun _ _ h => nomatch h⟩ (hrel1 _ w) .nil (fun _ a => a.1.isB b = true) (T.every_holds hr)
      refine this.mono fun e w' hh => ?_
      obtain ⟨C', v', sv, hp', he, hrel, hH, hK, hb'⟩ := hh
      have := SV.isB_ok hb'
      simp only at this
      subst this
      obtain ⟨k1, k2⟩ := hK.rest h
      exact ⟨C, v', .sc (.bool (.tt b)), hp, he, ⟨trivial, hrel.2⟩, k1, k2, hx⟩
    · cases ht
/-- the other way round -/
def turnOp : BinOp → Option BinOp
  | .lss => some .geq
  | .geq => some .lss
  | .leq => some .gtr
  | .gtr => some .leq
  | .eql => some .neq
  | .neq => some .eql
  | _ => none
theorem turnOp_ok {op op' : BinOp} (h : turnOp op = some op') (x y : Int) : cmpD op x y = !cmpD op' x y := by
  cases op <;> simp only [turnOp, Option.some.injEq] at h <;> first | (cases h; done) | (subst h; simp only [cmpD]) | skip
  all_goals first
    | (cases h1 : decide (x < y) <;> cases h2 : decide (x ≥ y) <;> simp_all <;> omega)
    | (cases h1 : decide (x ≤ y) <;> cases h2 : decide (x > y) <;> simp_all <;> omega)
    | (cases h1 : (x == y) <;> simp_all [bne])
/-- what is known of a test that is put together -/
def lookE (k : List (E × Bool)) : E → Option Bool
  | .tt b => some b
  | .no a => (lookE k a).map (!·)
  | .ite c a b => match lookE k c with
    | some true => lookE k a
    | some false => lookE k b
    | none => none
  | .cmp op a b => match look (.cmp op a b) k with
    | some x => some x
    | none => match turnOp op with
      | some op' => (look (.cmp op' a b) k).map (!·)
      | none => none
  | c => look c k
theorem lookE_ok {V : Env} {k : List (E × Bool)} (hk : ∀ q ∈ k, q.1.tr V = q.2) : ∀ {c : E} {b : Bool}, lookE k c = some b → c.tr V = b
  | .tt x, b, h => by cases h; rfl
  | .no a, b, h => by
    simp only [lookE, Option.map_eq_some_iff] at h
    obtain ⟨x, hx, rfl⟩ := h
    rw [tr_no, lookE_ok hk hx]
  | .ite c x y, b, h => by
    simp only [lookE] at h
    rw [tr_ite]
    split at h
    · rename_i hc; rw [lookE_ok hk hc, if_pos rfl]; exact lookE_ok hk h
    · rename_i hc; rw [lookE_ok hk hc, if_neg (by decide)]; exact lookE_ok hk h
    · cases h
  | .cmp op x y, b, h => by
    simp only [lookE] at h
    split at h
    · rename_i z hz; cases h; exact look_ok hk hz
    · split at h
      · rename_i op' ho
        obtain ⟨z, hz, rfl⟩ := Option.map_eq_some_iff.1 h
        have := look_ok hk hz
        rw [tr_cmp] at this ⊢
        rw [turnOp_ok ho, this]
      · cases h
  | .lit n, b, h => look_ok hk h
  | .var l u i, b, h => look_ok hk h
  | .bin op kk x y, b, h => look_ok hk h
  | .pl op x y, b, h => look_ok hk h
  | .cast kk x, b, h => look_ok hk h
  | .bvar i, b, h => look_ok hk h
  | .ix n s a, b, h => look_ok hk h
/-- every end is such; what has been asked once is not asked again -/
def T.everyP {α : Type} (p : α → Bool) : T α → List (E × Bool) → Bool
  | .ret a, _ => p a
  | .ite c t e, k => match lookE k c with
    | some true => t.everyP p k
    | some false => e.everyP p k
    | none => t.everyP p ((c, true) :: k) && e.everyP p ((c, false) :: k)
  | .both t e, k => t.everyP p k && e.everyP p k
  | .lets _ _ _ _ _, _ => false
  | .bad _, _ => false
  | .skip, _ => true
theorem T.everyP_holds {α : Type} {p : α → Bool} {V : Env} : ∀ {t : T α} {k : List (E × Bool)}, (∀ q ∈ k, q.1.tr V = q.2) → t.everyP p k = true → t.holds (fun _ a => p a = true) V
  | .ret a, k, hk, h => h
  | .ite c t e, k, hk, h => by
    simp only [T.everyP] at h
    split at h
    · rename_i hl
      have := lookE_ok hk hl
      exact ⟨fun _ => T.everyP_holds hk h, fun hc => by rw [this] at hc; cases hc⟩
    · rename_i hl
      have := lookE_ok hk hl
      exact ⟨fun hc => by (rw [this] at hc; cases hc), fun _ => T.everyP_holds hk h⟩
    · simp only [Bool.and_eq_true] at h
      refine ⟨fun hc => T.everyP_holds (fun q hq => ?_) h.1, fun hc => T.everyP_holds (fun q hq => ?_) h.2⟩
      · rcases List.mem_cons.1 hq with rfl | hq
        · exact hc
        · exact hk q hq
      · rcases List.mem_cons.1 hq with rfl | hq
        · exact hc
        · exact hk q hq
  | .both t e, k, hk, h => by
    simp only [T.everyP, Bool.and_eq_true] at h
    exact ⟨T.everyP_holds hk h.1, T.everyP_holds hk h.2⟩
  | .lets f as s n t, k, hk, h => nomatch h
  | .bad _, k, hk, h => nomatch h
  | .skip, k, hk, h => trivial
/-! ### what a function answers to values of the text -/
def SC.shut : SC → Bool
  | .int _ (.lit _) => true
  | .bool (.tt _) => true
  | .str _ => true
  | .nilp => true
  | .nils => true
  | .nilm => true
  | .nilFunc => true
  | .nilIface => true
  | .undef => true
  | _ => false
theorem SC.shut_rel {C C' : Ctx} {c : SC} (h : c.shut = true) {v : Value} (k : c.rel C v) : c.rel C' v := by
  unfold SC.shut at h
  split at h
  · exact ⟨trivial, k.2⟩
  · exact ⟨trivial, k.2⟩
  · exact k
  · exact k
  · exact k
  · exact k
  · exact k
  · exact k
  · exact k
  · cases h
theorem shut_list {C C' : Ctx} : ∀ {l : List SC} {vs : List Value}, l.all SC.shut = true → All2 (SC.rel C) l vs → All2 (SC.rel C') l vs
  | [], _, _, .nil => .nil
  | c :: l, _, h, .cons h1 h2 => by
    simp only [List.all_cons, Bool.and_eq_true] at h
    exact .cons (SC.shut_rel h.1 h1) (shut_list h.2 h2)
def PV.shut : PV → Bool
  | .one c => c.shut
  | .agg cs => cs.all SC.shut
theorem PV.shut_rel {C C' : Ctx} {p : PV} (h : p.shut = true) {v : Value} (k : p.rel C v) : p.rel C' v := by
  cases p with
  | one c => exact SC.shut_rel h k
  | agg cs => obtain ⟨vs, k1, k2⟩ := k; exact ⟨vs, shut_list h k1, k2⟩
def SV.shut : SV → Bool
  | .pv p => p.shut
  | _ => false
theorem SV.shut_rel {C C' : Ctx} {p : SV} (h : p.shut = true) {v : Value} (k : p.rel C v) : p.rel C' v := by
  cases p with
  | pv p => exact PV.shut_rel h k
  | tup ps => cases h
  | any => cases h
theorem shut_args {C C' : Ctx} : ∀ {l : List SV} {vs : List Value}, l.all SV.shut = true → All2 (SV.rel C) l vs → All2 (SV.rel C') l vs
  | [], _, _, .nil => .nil
  | c :: l, _, h, .cons h1 h2 => by
    simp only [List.all_cons, Bool.and_eq_true] at h
    exact .cons (SV.shut_rel h.1 h1) (shut_args h.2 h2)
def memoV (f0 : FuncId) (args : List SV) (res : SV) : Orc := fun f as hp =>
  bif Nat.beq f f0 then (bif listSame svSame as args then some (.ret (res, hp)) else none) else none
theorem memoV_ok {P : Program} {tb : Tb} (htb : TbOk P tb) (hm : P.follows .mixedOrders = true) {f0 : FuncId} {args : List SV} {res : SV} {lf n : Nat} {orc : Orc} (ho : ∀ X ft, OrcOk P X ft orc) (hc : (args.all SV.shut && res.shut) = true)
    (hr : (xfn P tb orc lf n f0 args hp1).every (fun a => svSame a.1 res) = true) (X : Ext) (ft : Ft) : OrcOk P X ft (memoV f0 args res) := by
  intro f as hp t ht C w vs hC h hv Φ hx
  unfold memoV at ht
  cases hb : Nat.beq f f0 with
  | false => rw [hb, cond_false] at ht; cases ht
  | true =>
    rw [hb, cond_true] at ht
    cases hs : listSame svSame as args with
    | false => rw [hs, cond_false] at ht; cases ht
    | true =>
      rw [hs, cond_true] at ht
      cases ht
      have hf : f = f0 := Nat.eq_of_beq_eq_true hb
      subst hf
      have ha : as = args := listSame_ok (fun _ _ => svSame_ok) hs
      subst ha
      simp only [Bool.and_eq_true] at hc
      have := xfn_ok (X := noExt) (ft := (envOf []).f) htb (ho noExt (envOf []).f) hm lf n f as hp1 (ctx1 (envOf [])) w vs ⟨rfl, rfl, fun _ _ h => nomatch h⟩ (hrel1 _ w) (shut_args hc.1 hv) (fun _ a => svSame a.1 res = true) (T.every_holds hr)
      refine this.mono fun e w' hh => ?_
      obtain ⟨C', v', sv, hp', he, hrel, hH, hK, hb'⟩ := hh
      have := svSame_ok hb'
      simp only at this
      subst this
      obtain ⟨k1, k2⟩ := hK.rest h
      exact ⟨C, v', sv, hp, he, SV.shut_rel hc.2 hrel, k1, k2, hx⟩
end Go.Proofs.YtkogjjeoihnjpaaGreat.Sx
end
section
set_option linter.unusedVariables false
set_option linter.unusedSimpArgs false
namespace Go.Proofs.YtkogjjeoihnjpaaGreat.Sx
open Go Go.RowKit
noncomputable section
/-! ### new variables -/
/-- may n numbers be given, from nx on? -/
def Hp.canN (hp : Hp) (n : Nat) : Bool := Nat.ble (hp.nx + n) hp.lim && hp.rest.all fun r => Nat.ble (hp.nx + n) r.1 || Nat.ble r.2 hp.nx
/-- variables, one for each pair of bounds, from s on -/
def vars : Nat → List (Int × Int) → List E
  | _, [] => []
  | s, (l, h) :: r => .var l h s :: vars (s + 1) r
/-- the same, laid out at once -/
def varsK {β : Type} : Nat → List (Int × Int) → (List E → β) → β
  | _, [], k => k []
  | s, (l, h) :: r, k => natK s fun s => varsK (s + 1) r fun t => k (.var l h s :: t)
theorem varsK_eq {β : Type} : ∀ (s : Nat) (rs : List (Int × Int)) (k : List E → β), varsK s rs k = k (vars s rs)
  | s, [], k => rfl
  | s, (l, h) :: r, k => by rw [varsK, natK_eq, varsK_eq]; rfl
def allEq : List E → List E → Bool
  | [], [] => true
  | a :: as, b :: bs => bif eEq a b then allEq as bs else false
  | _, _ => false
theorem allEq_ok (V : Env) : ∀ {as bs : List E}, allEq as bs = true → as.map (E.den V) = bs.map (E.den V)
  | [], [], _ => rfl
  | a :: as, b :: bs, h => by
    obtain ⟨h1, h2⟩ := and_bif h
    simp only [List.map_cons, eEq_den h1, allEq_ok V h2]
  | [], _ :: _, h => nomatch h
  | _ :: _, [], h => nomatch h
/-- has this been asked? -/
def lookD (f : Nat) (as : List E) : List Df → Option (List E)
  | [] => none
  | q :: r => bif (bif Nat.beq q.f f then allEq q.as as else false) then some q.outs else lookD f as r
theorem lookD_ok {f : Nat} {as outs : List E} : ∀ {d : List Df}, lookD f as d = some outs → ∃ q ∈ d, q.f = f ∧ allEq q.as as = true ∧ q.outs = outs
  | [], h => nomatch h
  | q :: r, h => by
    unfold lookD at h
    cases hb : (bif Nat.beq q.f f then allEq q.as as else false) with
    | true =>
      rw [hb, cond_true] at h
      cases h
      obtain ⟨h1, h2⟩ := and_bif hb
      exact ⟨q, List.mem_cons_self, Nat.eq_of_beq_eq_true h1, h2, rfl⟩
    | false =>
      rw [hb, cond_false] at h
      obtain ⟨q', h1, h2⟩ := lookD_ok h
      exact ⟨q', List.mem_cons_of_mem _ h1, h2⟩
/-- numbers between bounds -/
def InB (rs : List (Int × Int)) (l : List Int) : Prop := l.length = rs.length ∧ ∀ (j : Nat) r n, rs[j]? = some r → l[j]? = some n → r.1 ≤ n ∧ n ≤ r.2
/-- variables that stand s places on -/
def E.up (s : Nat) : E → E
  | .lit n => .lit n
  | .var l h i => natK (s + i) fun i => .var l h i
  | .bin op k a b => .bin op k (a.up s) (b.up s)
  | .pl op a b => .pl op (a.up s) (b.up s)
  | .cast k a => .cast k (a.up s)
  | .ite c a b => .ite (c.up s) (a.up s) (b.up s)
  | .tt b => .tt b
  | .bvar i => .bvar i
  | .cmp op a b => .cmp op (a.up s) (b.up s)
  | .no a => .no (a.up s)
  | .ix n t a => .ix n t a
/-- does it speak of these variables alone? -/
def scB (rs : List (Int × Int)) : E → Bool
  | .lit _ => true
  | .var lo hi i => match rs[i]? with
    | some (l, h) => bif decide (lo ≤ l) then decide (h ≤ hi) else false
    | none => false
  | .bin _ _ a b => bif scB rs a then scB rs b else false
  | .pl _ a b => bif scB rs a then scB rs b else false
  | .cast _ a => scB rs a
  | .ite c a b => bif scB rs c then (bif scB rs a then scB rs b else false) else false
  | .tt _ => true
  | .bvar _ => false
  | .cmp _ a b => bif scB rs a then scB rs b else false
  | .no a => scB rs a
  | .ix _ _ _ => false
/-- numbers alone -/
def env0 (args : List Int) : Env := ⟨fun i => args.getD i 0, fun _ => false, fun _ => Go.undef, fun _ _ => []⟩
theorem inB_get {rs : List (Int × Int)} {args : List Int} (h : InB rs args) {i : Nat} {r : Int × Int} (hr : rs[i]? = some r) : r.1 ≤ args.getD i 0 ∧ args.getD i 0 ≤ r.2 := by
  have hi : i < rs.length := (List.getElem?_eq_some_iff.1 hr).1
  have hi' : i < args.length := by rw [h.1]; exact hi
  have := h.2 i r args[i] hr (by simp [hi'])
  simpa [List.getD, hi'] using this
/-- where the variables are args, from s on -/
theorem up_ok {V : Env} {d : Nat → Prop} {rs : List (Int × Int)} {args : List Int} (h : InB rs args) {s : Nat} (hd : ∀ i, i < rs.length → d (s + i)) (hV : ∀ i, i < rs.length → V.i (s + i) = args.getD i 0) : ∀ {e : E}, scB rs e = true → (e.up s).sc V d ∧ (e.up s).ev V = e.ev (env0 args)
  | .lit _, _ => ⟨trivial, rfl⟩
  | .var lo hi i, hb => by
    unfold scB at hb
    split at hb
    · rename_i l u hr
      obtain ⟨h1, h2⟩ := and_bif hb
      have h1 := of_decide_eq_true h1
      have h2 := of_decide_eq_true h2
      have hi := (List.getElem?_eq_some_iff.1 hr).1
      have := inB_get h hr
      simp only at this
      unfold E.up
      rw [natK_eq]
      refine ⟨⟨hd i hi, ?_, ?_⟩, ?_⟩
      · rw [hV i hi]; omega
      · rw [hV i hi]; omega
      · simp only [E.ev, hV i hi]; rfl
    · cases hb
  | .bin _ _ a b, hb => by
    obtain ⟨h1, h2⟩ := and_bif hb
    obtain ⟨k1, k2⟩ := up_ok h hd hV h1; obtain ⟨m1, m2⟩ := up_ok h hd hV h2
    exact ⟨⟨k1, m1⟩, by simp only [E.up, E.ev, k2, m2]⟩
  | .pl _ a b, hb => by
    obtain ⟨h1, h2⟩ := and_bif hb
    obtain ⟨k1, k2⟩ := up_ok h hd hV h1; obtain ⟨m1, m2⟩ := up_ok h hd hV h2
    exact ⟨⟨k1, m1⟩, by simp only [E.up, E.ev, k2, m2]⟩
  | .cast _ a, hb => by
    obtain ⟨k1, k2⟩ := up_ok (e := a) h hd hV hb
    exact ⟨k1, by simp only [E.up, E.ev, k2]⟩
  | .ite c a b, hb => by
    obtain ⟨h1, h2⟩ := and_bif hb; obtain ⟨h2, h3⟩ := and_bif h2
    obtain ⟨k1, k2⟩ := up_ok h hd hV h1; obtain ⟨m1, m2⟩ := up_ok h hd hV h2; obtain ⟨n1, n2⟩ := up_ok h hd hV h3
    exact ⟨⟨k1, m1, n1⟩, by simp only [E.up, E.ev, k2, m2, n2]⟩
  | .tt _, _ => ⟨trivial, rfl⟩
  | .bvar _, hb => nomatch hb
  | .cmp _ a b, hb => by
    obtain ⟨h1, h2⟩ := and_bif hb
    obtain ⟨k1, k2⟩ := up_ok h hd hV h1; obtain ⟨m1, m2⟩ := up_ok h hd hV h2
    exact ⟨⟨k1, m1⟩, by simp only [E.up, E.ev, k2, m2]⟩
  | .no a, hb => by
    obtain ⟨k1, k2⟩ := up_ok (e := a) h hd hV hb
    exact ⟨k1, by simp only [E.up, E.ev, k2]⟩
  | .ix _ _ _, hb => nomatch hb
def upK (s : Nat) : Ks → Ks → Ks
  | [], r => r
  | (e, b) :: t, r => (e.up s, b) :: upK s t r
def xlets {α : Type} (hp : Hp) (f : Nat) (as : List E) (rs : List (Int × Int)) (post : List E → Ks) (k : List E → Hp → T α) : T α :=
  match lookD f as hp.gh.d with
  | some outs => k outs hp
  | none => bif hp.canN rs.length then natK hp.nx fun s => varsK s rs fun vs => .lets f as s rs.length (natK (s + rs.length) fun nx => ksK (post vs ++ hp.gh.k) fun ks => k vs ⟨hp.H, nx, hp.lim, hp.rest, ⟨ks, ⟨f, as, vs⟩ :: hp.gh.d, hp.gh.m⟩⟩) else .bad "numbers"
theorem vars_get : ∀ {s : Nat} {rs : List (Int × Int)} {e : E}, e ∈ vars s rs → ∃ j r, rs[j]? = some r ∧ e = .var r.1 r.2 (s + j)
  | s, [], e, h => nomatch h
  | s, (l, u) :: r, e, h => by
    rcases List.mem_cons.1 h with rfl | h
    · exact ⟨0, (l, u), rfl, rfl⟩
    · obtain ⟨j, q, h1, h2⟩ := vars_get h
      exact ⟨j + 1, q, by simpa using h1, by rw [h2]; congr 1; omega⟩
theorem vars_den {V : Env} : ∀ {s : Nat} {rs : List (Int × Int)} {l : List Int}, l.length = rs.length → (∀ j n, l[j]? = some n → V.i (s + j) = n) → (vars s rs).map (E.den V) = l
  | s, [], [], _, _ => rfl
  | s, [], _ :: _, h, _ => by simp at h
  | s, _ :: _, [], h, _ => by simp at h
  | s, (a, b) :: r, n :: l, h, hV => by
    simp only [vars, List.map_cons]
    have h0 := hV 0 n (by simp)
    rw [Nat.add_zero] at h0
    rw [den_var, h0, vars_den (by simpa using h) fun j m hj => by
      have := hV (j + 1) m (by simpa using hj)
      rwa [show s + 1 + j = s + (j + 1) by omega]]
theorem xlets_ok {α : Type} {Φ : Env → α → Prop} {C : Ctx} {hp : Hp} {w : World} (h : HRel C hp w) {f : Nat} {as : List E} {rs : List (Int × Int)} {post : List E → Ks} {k : List E → Hp → T α} (hs : ∀ e ∈ as, e.sc C.V C.vd) (hr : InB rs (C.V.f f (as.map (E.den C.V)))) (hpost : ∀ (C' : Ctx) (vs : List E), C.le C' → (∀ e ∈ vs, e.sc C'.V C'.vd) → vs.map (E.den C'.V) = C.V.f f (as.map (E.den C.V)) → ∀ q ∈ post vs, q.1.sc C'.V C'.vd ∧ q.1.tr C'.V = q.2) (hx : (xlets hp f as rs post k).holds Φ C.V) :
    ∃ C' hp' outs, HRel C' hp' w ∧ Kp C w C' w ∧ (∀ e ∈ outs, e.sc C'.V C'.vd) ∧ outs.map (E.den C'.V) = C.V.f f (as.map (E.den C.V)) ∧ (k outs hp').holds Φ C'.V ∧ C'.bl = C.bl ∧ C'.S = C.S ∧ C'.O = C.O ∧ C'.X = C.X ∧ hp'.H = hp.H ∧ hp'.gh.m = hp.gh.m := by
  unfold xlets at hx
  split at hx
  · rename_i outs ho
    obtain ⟨q, hq, rfl, h2, rfl⟩ := lookD_ok ho
    have hd := h.ext.defs q hq
    exact ⟨C, hp, q.outs, h, .refl C w, hd.outs, by rw [← hd.eq, allEq_ok C.V h2], hx, rfl, rfl, rfl, rfl, rfl, rfl⟩
  · cases hc : hp.canN rs.length with
    | false => rw [hc, cond_false] at hx; exact hx.elim
    | true =>
      rw [hc, cond_true, natK_eq, varsK_eq] at hx
      have hx : T.holds Φ (natK (hp.nx + rs.length) fun nx => ksK (post (vars hp.nx rs) ++ hp.gh.k) fun ks => k (vars hp.nx rs) ⟨hp.H, nx, hp.lim, hp.rest, ⟨ks, ⟨f, as, vars hp.nx rs⟩ :: hp.gh.d, hp.gh.m⟩⟩) (C.V.lets f as hp.nx rs.length) := hx
      rw [natK_eq, ksK_eq] at hx
      simp only [Hp.canN, Bool.and_eq_true, List.all_eq_true, Bool.or_eq_true] at hc
      obtain ⟨hc1, hc2⟩ := hc
      have hc1 : hp.nx + rs.length ≤ hp.lim := Nat.le_of_ble_eq_true hc1
      have hfree : ∀ b, hp.nx ≤ b → b < hp.nx + rs.length → C.bl b = none ∧ ¬ C.vd b := fun b h1 h2 => h.free b (.inl ⟨h1, by omega⟩)
      obtain ⟨l, hl⟩ : ∃ l, l = C.V.f f (as.map (E.den C.V)) := ⟨_, rfl⟩
      rw [← hl] at hr
      have hVi : ∀ j n, l[j]? = some n → (C.V.lets f as hp.nx rs.length).i (hp.nx + j) = n := fun j n hj => by
        have hjl : j < l.length := (List.getElem?_eq_some_iff.1 hj).1
        simp only [Env.lets]
        rw [if_pos ⟨by omega, by rw [← hr.1]; omega⟩, ← hl]
        simp [List.getD, hj]
      let C' : Ctx := { C with V := C.V.lets f as hp.nx rs.length, vd := fun i => C.vd i ∨ (hp.nx ≤ i ∧ i < hp.nx + rs.length) }
      have hle : C.le C' := ⟨fun i hi => ⟨.inl hi, by
          show (if hp.nx ≤ i ∧ i < hp.nx + rs.length then _ else C.V.i i) = C.V.i i
          rw [if_neg fun hh => (hfree i hh.1 hh.2).2 hi], rfl, rfl⟩, rfl, rfl, fun b x hb => hb⟩
      have hden : (vars hp.nx rs).map (E.den C'.V) = l := vars_den hr.1 hVi
      have hvsc : ∀ e ∈ vars hp.nx rs, e.sc C'.V C'.vd := fun e he => by
        obtain ⟨j, r, h1, rfl⟩ := vars_get he
        have hj : j < rs.length := (List.getElem?_eq_some_iff.1 h1).1
        obtain ⟨n, hn⟩ : ∃ n, l[j]? = some n := ⟨l[j]'(by rw [hr.1]; exact hj), by simp [hr.1, hj]⟩
        have := hr.2 j r n h1 hn
        refine ⟨.inr ⟨by omega, by omega⟩, ?_⟩
        rw [show C'.V.i (hp.nx + j) = n from hVi j n hn]
        exact this
      have hext : GhOk C'.V C'.vd C'.X C'.bl C'.S hp.gh w := GhOk.le (C := C) (C' := C') h.ext hle h.ext.rel
      have hfacts : ∀ q ∈ post (vars hp.nx rs) ++ hp.gh.k, q.1.sc C'.V C'.vd ∧ q.1.tr C'.V = q.2 := fun q hq => by
        rcases List.mem_append.1 hq with hq | hq
        · exact hpost C' _ hle hvsc (hden.trans hl) q hq
        · exact hext.facts q hq
      refine ⟨C', ⟨hp.H, hp.nx + rs.length, hp.lim, hp.rest, ⟨post (vars hp.nx rs) ++ hp.gh.k, ⟨f, as, vars hp.nx rs⟩ :: hp.gh.d, hp.gh.m⟩⟩, vars hp.nx rs, ⟨⟨fun b blk hb => ?_, h.inj⟩, ⟨hext.rel, hext.msc, hfacts, fun q hq => ?_⟩, h.apart, h.own, fun b hb => ?_, h.blt⟩, ⟨hle, Nat.le_refl _, rfl, rfl, rfl, fun _ _ _ _ => rfl, fun _ h => .inl h, fun _ h => .inl h, fun b _ c h => .inl ⟨b, c, h⟩⟩, hvsc, hden.trans hl, hx, rfl, rfl, rfl, rfl, rfl, rfl⟩
      · obtain ⟨g, c, k1, k2⟩ := h.at_ b blk hb
        exact ⟨g, c, k1, k2.le hle⟩
      · rcases List.mem_cons.1 hq with rfl | hq
        · exact ⟨fun e he => (E.sc_le hle e (hs e he)).1, hvsc, by
            show C.V.f f (as.map (E.den C'.V)) = _
            rw [hden, den_map hle hs, hl]⟩
        · exact hext.defs q hq
      · have hb' : hp.isFree b ∧ ¬ (hp.nx ≤ b ∧ b < hp.nx + rs.length) := by
          rcases hb with ⟨h1, h2⟩ | ⟨r, hr1, h1, h2⟩
          · simp only at h1 h2
            exact ⟨.inl ⟨by omega, h2⟩, by omega⟩
          · refine ⟨.inr ⟨r, hr1, h1, h2⟩, fun hh => ?_⟩
            rcases hc2 r hr1 with hh2 | hh2
            · have := Nat.le_of_ble_eq_true hh2; omega
            · have := Nat.le_of_ble_eq_true hh2; omega
        obtain ⟨k1, k2⟩ := h.free b hb'.1
        exact ⟨k1, fun hv => hv.elim k2 hb'.2⟩
end
end Go.Proofs.YtkogjjeoihnjpaaGreat.Sx
end
section
set_option linter.unusedVariables false
set_option linter.unusedSimpArgs false
namespace Go.Proofs.YtkogjjeoihnjpaaGreat.Sx
open Go Go.RowKit
noncomputable section
/-! ### what a run picks -/
def T.pick {α : Type} : T α → Env → Option (Env × α)
  | .ret a, V => some (V, a)
  | .ite c t e, V => if c.tr V then t.pick V else e.pick V
  | .both _ _, _ => none
  | .lets f as s n t, V => t.pick (V.lets f as s n)
  | .bad _, _ => none
  | .skip, _ => none
/-- one way at most -/
def T.one {α : Type} : T α → Bool
  | .ret _ => true
  | .ite _ t e => bif t.one then e.one else false
  | .both _ _ => false
  | .lets _ _ _ _ t => t.one
  | .bad _ => true
  | .skip => false
theorem T.holds_pick {α : Type} {Φ : Env → α → Prop} : ∀ {t : T α} {V : Env}, t.one = true → t.holds Φ V → t.holds (fun V' a => t.pick V = some (V', a) ∧ Φ V' a) V
  | .ret a, V, h1, h => ⟨rfl, h⟩
  | .ite c t e, V, h1, h => by
    obtain ⟨h2, h3⟩ := and_bif h1
    refine ⟨fun hc => ?_, fun hc => ?_⟩
    · refine T.holds_mono (fun V' a k => ?_) (T.holds_pick h2 (h.1 hc))
      refine ⟨?_, k.2⟩
      show (if c.tr V then t.pick V else e.pick V) = _
      rw [hc, if_pos rfl]; exact k.1
    · refine T.holds_mono (fun V' a k => ?_) (T.holds_pick h3 (h.2 hc))
      refine ⟨?_, k.2⟩
      show (if c.tr V then t.pick V else e.pick V) = _
      rw [hc, if_neg (by decide)]; exact k.1
  | .both t e, V, h1, h => nomatch h1
  | .lets f as s n t, V, h1, h => T.holds_pick (t := t) (V := V.lets f as s n) h1 h
  | .bad _, V, h1, h => h.elim
  | .skip, V, h1, h => nomatch h1
theorem T.picks {α : Type} {Φ : Env → α → Prop} : ∀ {t : T α} {V : Env}, t.one = true → t.holds Φ V → ∃ V' a, t.pick V = some (V', a) ∧ Φ V' a
  | .ret a, V, h1, h => ⟨V, a, rfl, h⟩
  | .ite c t e, V, h1, h => by
    obtain ⟨h2, h3⟩ := and_bif h1
    cases hc : c.tr V with
    | true =>
      obtain ⟨V', a, k1, k2⟩ := T.picks h2 (h.1 hc)
      refine ⟨V', a, ?_, k2⟩
      show (if c.tr V then t.pick V else e.pick V) = _
      rw [hc, if_pos rfl]; exact k1
    | false =>
      obtain ⟨V', a, k1, k2⟩ := T.picks h3 (h.2 hc)
      refine ⟨V', a, ?_, k2⟩
      show (if c.tr V then t.pick V else e.pick V) = _
      rw [hc, if_neg (by decide)]; exact k1
  | .both t e, V, h1, h => nomatch h1
  | .lets f as s n t, V, h1, h => T.picks (t := t) (V := V.lets f as s n) h1 h
  | .bad _, V, h1, h => h.elim
  | .skip, V, h1, h => nomatch h1
/-! ### values as lists of numbers -/
inductive CK where
  | i (k : IntKind)
  | b
  deriving DecidableEq, Inhabited
def ckV : CK → Int → Value
  | .i k, n => .int k n
  | .b, n => .bool (decide (n = 1))
def ckSC : CK → E → SC
  | .i k, e => .int k e
  | .b, e => match e with
    | .ite c (.lit (.ofNat 1)) (.lit (.ofNat 0)) => .bool c
    | e => .bool (.cmp .eql e (.lit (.ofNat 1)))
def ckE : CK → SC → Option E
  | .i k, .int k' e => bif Nat.beq (kdN k) (kdN k') then some e else none
  | .b, .bool e => match e with
    | .tt true => some (.lit (.ofNat 1))
    | .tt false => some (.lit (.ofNat 0))
    | .cmp op x (.lit (.ofNat 1)) => match x with
      | .var (.ofNat 0) (.ofNat 1) i => bif Nat.beq (opN op) 11 then some (.var (.ofNat 0) (.ofNat 1) i) else some (.ite e (.lit (.ofNat 1)) (.lit (.ofNat 0)))
      | _ => some (.ite e (.lit (.ofNat 1)) (.lit (.ofNat 0)))
    | e => some (.ite e (.lit (.ofNat 1)) (.lit (.ofNat 0)))
  | _, _ => none
def ckR : CK → Int × Int
  | .i k => (kLo k, kHi k)
  | .b => (0, 1)
theorem ckSC_rel {C : Ctx} (c : CK) {e : E} (h : e.sc C.V C.vd) : (ckSC c e).rel C (ckV c (e.den C.V)) := by
  cases c with
  | i k => exact ⟨h, rfl⟩
  | b =>
    unfold ckSC
    simp only
    split
    · rename_i c
      refine ⟨h.1, ?_⟩
      rw [den_ite, den_lit, den_lit]
      unfold ckV
      cases hc : c.tr C.V <;> simp
    · refine ⟨⟨h, trivial⟩, ?_⟩
      rw [tr_cmp, den_lit]
      unfold ckV
      congr 1
theorem ckE_ok {C : Ctx} {c : CK} {s : SC} {e : E} {v : Value} (h : ckE c s = some e) (hr : s.rel C v) : e.sc C.V C.vd ∧ v = ckV c (e.den C.V) := by
  have gen : ∀ {e0 : E} {v : Value}, (SC.bool e0).rel C v → (E.ite e0 (.lit (.ofNat 1)) (.lit (.ofNat 0))).sc C.V C.vd ∧ v = ckV .b ((E.ite e0 (.lit (.ofNat 1)) (.lit (.ofNat 0))).den C.V) := fun {e0 v} hr => by
    refine ⟨⟨hr.1, trivial, trivial⟩, ?_⟩
    rw [hr.2, den_ite, den_lit, den_lit]
    unfold ckV
    cases hc : e0.tr C.V <;> simp
  unfold ckE at h
  split at h
  · rename_i k k' e0
    cases hb : Nat.beq (kdN k) (kdN k') with
    | true => rw [hb, cond_true] at h; cases h; rw [kdN_inj hb]; exact hr
    | false => rw [hb, cond_false] at h; cases h
  · split at h
    · cases h; refine ⟨trivial, ?_⟩; rw [hr.2, tr_tt, den_lit]; rfl
    · cases h; refine ⟨trivial, ?_⟩; rw [hr.2, tr_tt, den_lit]; rfl
    · rename_i op x
      split at h
      · rename_i i
        cases hb : Nat.beq (opN op) 11 with
        | true =>
          rw [hb, cond_true] at h
          cases h
          have ho : op = .eql := opN_inj (b := .eql) hb
          subst ho
          refine ⟨hr.1.1, ?_⟩
          rw [hr.2, tr_cmp, den_lit]
          unfold ckV
          congr 1
        | false => rw [hb, cond_false] at h; cases h; exact gen hr
      · cases h; exact gen hr
    · cases h; exact gen hr
  · cases h
inductive Sh where
  | one (c : CK)
  | agg (cs : List CK)
  deriving DecidableEq, Inhabited
def cksV : List CK → List Int → List Value
  | [], _ => []
  | c :: cs, l => ckV c (l.headD 0) :: cksV cs l.tail
def shVs : List Sh → List Int → List Value
  | [], _ => []
  | .one c :: r, l => ckV c (l.headD 0) :: shVs r l.tail
  | .agg cs :: r, l => .agg (cksV cs l).toArray :: shVs r (l.drop cs.length)
def cksSC : List CK → List E → List SC
  | [], _ => []
  | c :: cs, l => ckSC c (l.headD (.lit 0)) :: cksSC cs l.tail
def shSVs : List Sh → List E → List PV
  | [], _ => []
  | .one c :: r, l => .one (ckSC c (l.headD (.lit 0))) :: shSVs r l.tail
  | .agg cs :: r, l => .agg (cksSC cs l) :: shSVs r (l.drop cs.length)
theorem head_den {C : Ctx} {l : List E} (h : ∀ e ∈ l, e.sc C.V C.vd) : (l.headD (.lit 0)).sc C.V C.vd ∧ (l.headD (.lit 0)).den C.V = (l.map (E.den C.V)).headD 0 := by
  cases l with
  | nil => exact ⟨trivial, rfl⟩
  | cons e l => exact ⟨h e List.mem_cons_self, rfl⟩
theorem cksSC_rel {C : Ctx} : ∀ (cs : List CK) {l : List E}, (∀ e ∈ l, e.sc C.V C.vd) → All2 (SC.rel C) (cksSC cs l) (cksV cs (l.map (E.den C.V)))
  | [], l, h => .nil
  | c :: cs, l, h => by
    obtain ⟨h1, h2⟩ := head_den h
    refine .cons ?_ ?_
    · rw [← h2]; exact ckSC_rel c h1
    · rw [show (l.map (E.den C.V)).tail = l.tail.map (E.den C.V) by simp]
      exact cksSC_rel cs fun e he => h e (List.mem_of_mem_tail he)
theorem shSVs_rel {C : Ctx} : ∀ (ss : List Sh) {l : List E}, (∀ e ∈ l, e.sc C.V C.vd) → All2 (PV.rel C) (shSVs ss l) (shVs ss (l.map (E.den C.V)))
  | [], l, h => .nil
  | .one c :: r, l, h => by
    obtain ⟨h1, h2⟩ := head_den h
    refine .cons ?_ ?_
    · show SC.rel C _ _; rw [← h2]; exact ckSC_rel c h1
    · rw [show (l.map (E.den C.V)).tail = l.tail.map (E.den C.V) by simp]
      exact shSVs_rel r fun e he => h e (List.mem_of_mem_tail he)
  | .agg cs :: r, l, h => by
    refine .cons ⟨_, cksSC_rel cs h, rfl⟩ ?_
    rw [show (l.map (E.den C.V)).drop cs.length = (l.drop cs.length).map (E.den C.V) by simp]
    exact shSVs_rel r fun e he => h e (List.mem_of_mem_drop he)
/-- the numbers of arguments -/
def cksE : List CK → List SC → Option (List E)
  | [], [] => some []
  | c :: cs, s :: ss => match ckE c s with
    | some e => match cksE cs ss with
      | some l => some (e :: l)
      | none => none
    | none => none
  | _, _ => none
def shEs : List Sh → List PV → Option (List E)
  | [], [] => some []
  | .one c :: r, .one s :: ps => match ckE c s with
    | some e => match shEs r ps with
      | some l => some (e :: l)
      | none => none
    | none => none
  | .agg cs :: r, .agg ss :: ps => match cksE cs ss with
    | some es => match shEs r ps with
      | some l => some (es ++ l)
      | none => none
    | none => none
  | _, _ => none
theorem cksE_ok {C : Ctx} : ∀ {cs : List CK} {ss : List SC} {es : List E} {vs : List Value}, cksE cs ss = some es → All2 (SC.rel C) ss vs → (∀ e ∈ es, e.sc C.V C.vd) ∧ es.length = cs.length ∧ ∀ l, vs = cksV cs (es.map (E.den C.V) ++ l)
  | [], [], es, vs, h, hv => by cases h; cases hv; exact ⟨(fun _ h => nomatch h), rfl, fun l => rfl⟩
  | c :: cs, s :: ss, es, vs, h, hv => by
    unfold cksE at h
    split at h
    · rename_i e he
      split at h
      · rename_i l hl
        cases h
        cases hv with
        | cons h1 h2 =>
          obtain ⟨k1, rfl⟩ := ckE_ok he h1
          obtain ⟨m1, m2, m3⟩ := cksE_ok hl h2
          refine ⟨fun x hx => ?_, by simp [m2], fun l' => ?_⟩
          · rcases List.mem_cons.1 hx with rfl | hx
            · exact k1
            · exact m1 x hx
          · rw [m3 l']; rfl
      · cases h
    · cases h
  | [], _ :: _, es, vs, h, hv => nomatch h
  | _ :: _, [], es, vs, h, hv => nomatch h
theorem shEs_ok {C : Ctx} : ∀ {ss : List Sh} {ps : List PV} {es : List E} {vs : List Value}, shEs ss ps = some es → All2 (PV.rel C) ps vs → (∀ e ∈ es, e.sc C.V C.vd) ∧ vs = shVs ss (es.map (E.den C.V))
  | [], [], es, vs, h, hv => by cases h; cases hv; exact ⟨(fun _ h => nomatch h), rfl⟩
  | .one c :: r, .one s :: ps, es, vs, h, hv => by
    unfold shEs at h
    split at h
    · rename_i e he
      split at h
      · rename_i l hl
        cases h
        cases hv with
        | cons h1 h2 =>
          obtain ⟨k1, rfl⟩ := ckE_ok he h1
          obtain ⟨m1, m2⟩ := shEs_ok hl h2
          refine ⟨fun x hx => ?_, by rw [m2]; rfl⟩
          rcases List.mem_cons.1 hx with rfl | hx
          · exact k1
          · exact m1 x hx
      · cases h
    · cases h
  | .agg cs :: r, .agg ss :: ps, es, vs, h, hv => by
    unfold shEs at h
    split at h
    · rename_i es0 he
      split at h
      · rename_i l hl
        cases h
        cases hv with
        | cons h1 h2 =>
          obtain ⟨us, hu, rfl⟩ := h1
          obtain ⟨k1, k2, k3⟩ := cksE_ok he hu
          obtain ⟨m1, m2⟩ := shEs_ok hl h2
          refine ⟨fun x hx => ?_, ?_⟩
          · rcases List.mem_append.1 hx with hx | hx
            · exact k1 x hx
            · exact m1 x hx
          · rw [List.map_append, k3 (l.map (E.den C.V)), m2]
            show _ = Value.agg (cksV cs (es0.map (E.den C.V) ++ l.map (E.den C.V))).toArray :: shVs r ((es0.map (E.den C.V) ++ l.map (E.den C.V)).drop cs.length)
            rw [List.drop_left' (by simp [k2])]
      · cases h
    · cases h
  | [], _ :: _, es, vs, h, hv => nomatch h
  | .one _ :: _, [], es, vs, h, hv => nomatch h
  | .agg _ :: _, [], es, vs, h, hv => nomatch h
  | .one _ :: _, .agg _ :: _, es, vs, h, hv => nomatch h
  | .agg _ :: _, .one _ :: _, es, vs, h, hv => nomatch h
/-- what is returned -/
inductive Rs where
  | one (s : Sh)
  | tup (ss : List Sh)
  deriving DecidableEq, Inhabited
def rsV : Rs → List Int → Value
  | .one s, l => (shVs [s] l).headD Go.undef
  | .tup ss, l => .tuple (shVs ss l).toArray
def rsSV : Rs → List E → SV
  | .one (.one c), l => .pv (.one (ckSC c (l.headD (.lit 0))))
  | .one (.agg cs), l => .pv (.agg (cksSC cs l))
  | .tup ss, l => .tup (shSVs ss l)
def rsEs : Rs → SV → Option (List E)
  | .one s, .pv p => shEs [s] [p]
  | .tup ss, .tup ps => shEs ss ps
  | _, _ => none
theorem rsSV_rel {C : Ctx} (r : Rs) {l : List E} (h : ∀ e ∈ l, e.sc C.V C.vd) : (rsSV r l).rel C (rsV r (l.map (E.den C.V))) := by
  cases r with
  | one s =>
    cases s with
    | one c =>
      obtain ⟨h1, h2⟩ := head_den h
      show SC.rel C (ckSC c (l.headD (.lit 0))) (ckV c ((l.map (E.den C.V)).headD 0))
      rw [← h2]; exact ckSC_rel c h1
    | agg cs => exact ⟨_, cksSC_rel cs h, rfl⟩
  | tup ss => exact ⟨_, shSVs_rel ss h, rfl⟩
theorem rsEs_ok {C : Ctx} {r : Rs} {sv : SV} {es : List E} {v : Value} (h : rsEs r sv = some es) (hv : sv.rel C v) : (∀ e ∈ es, e.sc C.V C.vd) ∧ v = rsV r (es.map (E.den C.V)) := by
  unfold rsEs at h
  split at h
  · rename_i s p
    obtain ⟨h1, h2⟩ := shEs_ok h (.cons (show PV.rel C p v from hv) .nil)
    refine ⟨h1, ?_⟩
    show v = (shVs [s] (es.map (E.den C.V))).headD Go.undef
    rw [← h2]; rfl
  · rename_i ss ps
    obtain ⟨vs, hv, rfl⟩ := hv
    obtain ⟨h1, h2⟩ := shEs_ok h hv
    exact ⟨h1, by rw [h2]; rfl⟩
  · cases h
end
end Go.Proofs.YtkogjjeoihnjpaaGreat.Sx
end
section
set_option linter.unusedVariables false
set_option linter.unusedSimpArgs false
namespace Go.Proofs.YtkogjjeoihnjpaaGreat.Sx
open Go Go.RowKit
noncomputable section
def envA (ft : Ft) (args : List Int) : Env := ⟨fun i => args.getD i 0, fun _ => false, fun _ => Go.undef, ft⟩
def hpF (fk : Ks) : Hp := ⟨[], 1000, 1606938044258990275541962092341162602522202993782792835301376, [], ⟨fk, [], []⟩⟩
theorem ev_env0 (ft : Ft) (args : List Int) : ∀ e : E, e.ev (envA ft args) = e.ev (env0 args)
  | .lit _ => rfl
  | .var _ _ _ => rfl
  | .bin _ _ a b => by simp only [E.ev, ev_env0 ft args a, ev_env0 ft args b]
  | .pl _ a b => by simp only [E.ev, ev_env0 ft args a, ev_env0 ft args b]
  | .cast _ a => by simp only [E.ev, ev_env0 ft args a]
  | .ite c a b => by simp only [E.ev, ev_env0 ft args c, ev_env0 ft args a, ev_env0 ft args b]
  | .tt _ => rfl
  | .bvar _ => rfl
  | .cmp _ a b => by simp only [E.ev, ev_env0 ft args a, ev_env0 ft args b]
  | .no a => by simp only [E.ev, ev_env0 ft args a]
  | .ix n s a => by simp only [E.ev, ev_env0 ft args a]; rfl
theorem KsOk.env {ft : Ft} {args : List Int} {k : Ks} (h : KsOk (env0 args) k) : KsOk (envA ft args) k := fun q hq => by
  have := h q hq
  unfold E.tr at *
  rw [ev_env0]; exact this
/-! ### other terms put for the variables -/
def plF (op : BinOp) (a b : E) : E :=
  match a, b with
  | .lit x, .lit y => .lit (plD op x y)
  | a, .lit (.ofNat n) => (match op with
    | .rem => (match resN a n with
      | some j => .lit (.ofNat j)
      | none => .pl .rem a (.lit (.ofNat n)))
    | op => .pl op a (.lit (.ofNat n)))
  | a, b => .pl op a b
def E.sb (σ : List E) : E → E
  | .lit n => .lit n
  | .var _ _ i => σ.getD i (.lit 0)
  | .bin op k a b => mkBin op k (a.sb σ) (b.sb σ)
  | .pl op a b => plF op (a.sb σ) (b.sb σ)
  | .cast k a => mkCast k (a.sb σ)
  | .ite c a b => .ite (c.sb σ) (a.sb σ) (b.sb σ)
  | .tt b => .tt b
  | .bvar i => .bvar i
  | .cmp op a b => mkCmp op (a.sb σ) (b.sb σ)
  | .no a => mkNo (a.sb σ)
  | .ix n s a => .ix n s a
/-- is it a number (a test) of these variables alone? -/
def scTy (rs : List (Int × Int)) : Bool → E → Bool
  | false, .lit _ => true
  | false, .var lo hi i => match rs[i]? with
    | some (l, h) => bif decide (lo ≤ l) then decide (h ≤ hi) else false
    | none => false
  | false, .bin _ _ a b => bif scTy rs false a then scTy rs false b else false
  | false, .pl _ a b => bif scTy rs false a then scTy rs false b else false
  | false, .cast _ a => scTy rs false a
  | t, .ite c a b => bif scTy rs true c then (bif scTy rs t a then scTy rs t b else false) else false
  | true, .tt _ => true
  | true, .cmp _ a b => bif scTy rs false a then scTy rs false b else false
  | true, .no a => scTy rs true a
  | _, _ => false
theorem plF_ok (op : BinOp) {a b : E} {V : Env} {d : Nat → Prop} (ha : a.sc V d) (hb : b.sc V d) : (plF op a b).sc V d ∧ (plF op a b).den V = plD op (a.den V) (b.den V) := by
  unfold plF
  split
  · exact ⟨trivial, rfl⟩
  · split
    · split
      · rename_i j hj
        exact ⟨trivial, (resN_ok V hj).symm⟩
      · exact ⟨⟨ha, hb⟩, rfl⟩
    · exact ⟨⟨ha, hb⟩, rfl⟩
  · exact ⟨⟨ha, hb⟩, rfl⟩
theorem sb_ok {V : Env} {d : Nat → Prop} {σ : List E} {rs : List (Int × Int)} (hσ : ∀ e ∈ σ, e.sc V d) (hl : σ.length = rs.length) : ∀ {e : E} {t : Bool}, scTy rs t e = true →
    (e.sb σ).sc V d ∧ (t = false → (e.sb σ).den V = e.den (env0 (σ.map (E.den V)))) ∧ (t = true → (e.sb σ).tr V = e.tr (env0 (σ.map (E.den V))))
  | .lit _, t, h => by cases t <;> first | (cases h; done) | exact ⟨trivial, fun _ => rfl, fun e => nomatch e⟩
  | .var lo hi i, t, h => by
    cases t <;> first | (cases h; done) | skip
    unfold scTy at h
    split at h
    · rename_i l u hr
      have hi : i < σ.length := by rw [hl]; exact (List.getElem?_eq_some_iff.1 hr).1
      have e1 : σ.getD i (.lit 0) = σ[i] := by simp [List.getD, hi]
      refine ⟨by unfold E.sb; rw [e1]; exact hσ _ (List.getElem_mem hi), fun _ => ?_, fun e => nomatch e⟩
      unfold E.sb
      rw [e1, den_var]
      show _ = (σ.map (E.den V)).getD i 0
      simp [List.getD, hi]
    · cases h
  | .bin op k a b, t, h => by
    cases t <;> first | (cases h; done) | skip
    obtain ⟨h1, h2⟩ := and_bif h
    obtain ⟨a1, a2, _⟩ := sb_ok hσ hl h1; obtain ⟨b1, b2, _⟩ := sb_ok hσ hl h2
    obtain ⟨c1, c2⟩ := mkBin_ok op k a1 b1
    exact ⟨c1, fun _ => by rw [den_bin, ← a2 rfl, ← b2 rfl]; exact c2, fun e => nomatch e⟩
  | .pl op a b, t, h => by
    cases t <;> first | (cases h; done) | skip
    obtain ⟨h1, h2⟩ := and_bif h
    obtain ⟨a1, a2, _⟩ := sb_ok hσ hl h1; obtain ⟨b1, b2, _⟩ := sb_ok hσ hl h2
    obtain ⟨c1, c2⟩ := plF_ok op a1 b1
    exact ⟨c1, fun _ => by rw [den_pl, ← a2 rfl, ← b2 rfl]; exact c2, fun e => nomatch e⟩
  | .cast k a, t, h => by
    cases t <;> first | (cases h; done) | skip
    obtain ⟨a1, a2, _⟩ := sb_ok (e := a) hσ hl (t := false) h
    obtain ⟨c1, c2⟩ := mkCast_ok k a1
    exact ⟨c1, fun _ => by rw [den_cast, ← a2 rfl]; exact c2, fun e => nomatch e⟩
  | .ite c a b, t, h => by
    have h : (bif scTy rs true c then (bif scTy rs t a then scTy rs t b else false) else false) = true := by cases t <;> exact h
    obtain ⟨h1, h2⟩ := and_bif h; obtain ⟨h2, h3⟩ := and_bif h2
    obtain ⟨c1, _, c3⟩ := sb_ok hσ hl h1
    obtain ⟨a1, a2, a3⟩ := sb_ok hσ hl h2; obtain ⟨b1, b2, b3⟩ := sb_ok hσ hl h3
    refine ⟨⟨c1, a1, b1⟩, fun e => ?_, fun e => ?_⟩
    · show (E.ite (c.sb σ) (a.sb σ) (b.sb σ)).den V = _
      rw [den_ite, den_ite, c3 rfl, a2 e, b2 e]
    · show (E.ite (c.sb σ) (a.sb σ) (b.sb σ)).tr V = _
      rw [tr_ite, tr_ite, c3 rfl, a3 e, b3 e]
  | .tt _, t, h => by cases t <;> first | (cases h; done) | exact ⟨trivial, (fun e => nomatch e), fun _ => rfl⟩
  | .bvar _, t, h => by cases t <;> cases h
  | .cmp op a b, t, h => by
    cases t <;> first | (cases h; done) | skip
    obtain ⟨h1, h2⟩ := and_bif h
    obtain ⟨a1, a2, _⟩ := sb_ok hσ hl h1; obtain ⟨b1, b2, _⟩ := sb_ok hσ hl h2
    obtain ⟨c1, c2⟩ := mkCmp_ok op a1 b1
    exact ⟨c1, (fun e => nomatch e), fun _ => by rw [tr_cmp, ← a2 rfl, ← b2 rfl]; exact c2⟩
  | .no a, t, h => by
    cases t <;> first | (cases h; done) | skip
    obtain ⟨a1, _, a3⟩ := sb_ok (e := a) hσ hl (t := true) h
    obtain ⟨c1, c2⟩ := mkNo_ok a1
    exact ⟨c1, (fun e => nomatch e), fun _ => by rw [tr_no, ← a3 rfl]; exact c2⟩
  | .ix _ _ _, t, h => by cases t <;> cases h
/-- 'a is not n, or what stands where a is n is v': known at once -/
def quickH : E → Bool
  | .ite (.cmp o a (.lit n)) (.tt true) (.cmp o2 (.ite (.cmp o' a' (.lit n')) v x) v') =>
    bif Nat.beq (opN o) 12 then (bif Nat.beq (opN o2) 11 then (bif Nat.beq (opN o') 11 then (bif decide (n = n') then (bif eEq a a' then eEq v v' else false) else false) else false) else false) else false
  | _ => false
theorem quickH_ok {V : Env} : ∀ {e : E}, quickH e = true → e.tr V = true := by
  intro e h
  unfold quickH at h
  split at h
  · rename_i o a n o2 o' a' n' v x v'
    obtain ⟨h1, h⟩ := and_bif h
    obtain ⟨h2, h⟩ := and_bif h
    obtain ⟨h3, h⟩ := and_bif h
    obtain ⟨h4, h⟩ := and_bif h
    obtain ⟨h5, h6⟩ := and_bif h
    have h1 : o = .neq := opN_inj (b := .neq) h1
    have h2 : o2 = .eql := opN_inj (b := .eql) h2
    have h3 : o' = .eql := opN_inj (b := .eql) h3
    have h4 := of_decide_eq_true h4
    subst h1; subst h2; subst h3; subst h4
    have h5 := eEq_den h5 (V := V)
    have h6 := eEq_den h6 (V := V)
    simp only [tr_ite, tr_cmp, den_ite, den_lit, tr_tt, cmpD, ← h5, ← h6]
    cases hh : (a.den V == n) <;> simp [hh, bne]
  · cases h
/-- is it known as it stands, or else by what is known? -/
def lookH (k : Ks) (e : E) : Option Bool :=
  match quickH e with
  | true => some true
  | false => match lookX e k with
    | some x => some x
    | none => knownF k e
theorem lookH_ok {V : Env} {d : Nat → Prop} {k : Ks} (hk : KsOk V k) {c : E} {b : Bool} (hs : c.sc V d) (h : lookH k c = some b) : c.tr V = b := by
  unfold lookH at h
  split at h
  · rename_i hq; cases h; exact quickH_ok hq
  · split at h
    · rename_i x hx; cases h; exact lookX_ok hk hx
    · exact knownF_ok hk hs h
/-- a test that stands among what is known, or its contrary does -/
def lkC (k : Ks) (c : E) : Option Bool :=
  match c with
  | .tt b => some b
  | .cmp op a b => (match lookX (.cmp op a b) k with
    | some x => some x
    | none => (match op with
      | .neq => (match lookX (.cmp .eql a b) k with
        | some x => some (!x)
        | none => none)
      | .eql => (match lookX (.cmp .neq a b) k with
        | some x => some (!x)
        | none => none)
      | _ => none))
  | .ite c a b => (match lkC k c with
    | some true => lkC k a
    | some false => lkC k b
    | none => none)
  | c => lookX c k
theorem lkC_ok {V : Env} {k : Ks} (hk : KsOk V k) : ∀ {c : E} {b : Bool}, lkC k c = some b → c.tr V = b := by
  intro c b h
  unfold lkC at h
  split at h
  · cases h; rfl
  · rename_i op a a'
    split at h
    · rename_i x hx; cases h; exact lookX_ok hk hx
    · split at h
      · split at h
        · rename_i x hx
          cases h
          have := lookX_ok hk hx
          rw [tr_cmp] at this ⊢
          simp only [cmpD, bne] at this ⊢
          rw [this]
        · cases h
      · split at h
        · rename_i x hx
          cases h
          have := lookX_ok hk hx
          rw [tr_cmp] at this ⊢
          simp only [cmpD, bne] at this ⊢
          rw [← this, Bool.not_not]
        · cases h
      · cases h
  · rename_i c a b'
    rw [tr_ite]
    split at h
    · rename_i hc; rw [lkC_ok hk hc, if_pos rfl]; exact lkC_ok hk h
    · rename_i hc; rw [lkC_ok hk hc, if_neg (by decide)]; exact lkC_ok hk h
    · cases h
  · exact lookX_ok hk h
/-- 'it is so, or c': c is not so -/
def hitI (k : Ks) (e : E) : E → Bool
  | .ite c (.tt true) x => (match lkC k c with
    | some false => hitI k e x
    | _ => false)
  | x => eEq x e
theorem hitI_ok {V : Env} {k : Ks} (hk : KsOk V k) {e : E} : ∀ {x : E}, x.tr V = true → hitI k e x = true → e.tr V = true := by
  intro x
  induction x with
  | ite c a b _ _ ih =>
    intro hx h
    unfold hitI at h
    split at h
    · rename_i c' x' heq
      cases heq
      split at h
      · rename_i hc
        rw [tr_ite, lkC_ok hk hc] at hx
        exact ih (by simpa using hx) h
      · cases h
    · rw [← eEq_tr h]; exact hx
  | lit _ => intro hx h; rw [← eEq_tr (show eEq _ _ = true from h)]; exact hx
  | var _ _ _ => intro hx h; rw [← eEq_tr (show eEq _ _ = true from h)]; exact hx
  | bin _ _ _ _ _ _ => intro hx h; rw [← eEq_tr (show eEq _ _ = true from h)]; exact hx
  | pl _ _ _ _ _ => intro hx h; rw [← eEq_tr (show eEq _ _ = true from h)]; exact hx
  | cast _ _ _ => intro hx h; rw [← eEq_tr (show eEq _ _ = true from h)]; exact hx
  | tt _ => intro hx h; rw [← eEq_tr (show eEq _ _ = true from h)]; exact hx
  | bvar _ => intro hx h; rw [← eEq_tr (show eEq _ _ = true from h)]; exact hx
  | cmp _ _ _ _ _ => intro hx h; rw [← eEq_tr (show eEq _ _ = true from h)]; exact hx
  | no _ _ => intro hx h; rw [← eEq_tr (show eEq _ _ = true from h)]; exact hx
  | ix _ _ _ _ => intro hx h; rw [← eEq_tr (show eEq _ _ = true from h)]; exact hx
def anyI (k : Ks) (e : E) : Ks → Bool
  | [] => false
  | (.ite c t x, true) :: r => bif hitI k e (.ite c t x) then true else anyI k e r
  | _ :: r => anyI k e r
theorem anyI_ok {V : Env} {k : Ks} (hk : KsOk V k) {e : E} : ∀ {l : Ks}, KsOk V l → anyI k e l = true → e.tr V = true
  | [], _, h => nomatch h
  | (x, b) :: r, hl, h => by
    unfold anyI at h
    split at h
    · cases h
    · rename_i c t x' r' heq
      cases heq
      cases hh : hitI k e (.ite c t x') with
      | true => exact hitI_ok hk (hl _ List.mem_cons_self) hh
      | false => rw [hh, cond_false] at h; exact anyI_ok hk hl.tail h
    · rename_i heq
      cases heq
      exact anyI_ok hk hl.tail h
/-- the same, where what is known may be 'it is so, or c' -/
def decB (k : Ks) (e : E) : Option Bool :=
  match lookH k e with
  | some x => some x
  | none => (match lkC k e with
    | some x => some x
    | none => bif anyI k e k then some true else none)
theorem decB_ok {V : Env} {d : Nat → Prop} {e : E} {k : Ks} {b : Bool} (hk : KsOk V k) (hs : e.sc V d) (h : decB k e = some b) : e.tr V = b := by
  unfold decB at h
  split at h
  · rename_i x hx; cases h; exact lookH_ok hk hs hx
  · split at h
    · rename_i x hx; cases h; exact lkC_ok hk hx
    · cases ha : anyI k e k with
      | true => rw [ha, cond_true] at h; cases h; exact anyI_ok hk hk ha
      | false => rw [ha, cond_false] at h; cases h
/-- a + n = b + n, for a = b is known -/
def congB (k : Ks) : E → Bool
  | .cmp .eql (.bin .add .u64 a (.lit n)) (.bin .add .u64 b (.lit n')) => bif decide (n = n') then (match decB k (.cmp .eql a b) with
    | some true => true
    | _ => false) else false
  | _ => false
theorem congB_ok {V : Env} {d : Nat → Prop} {e : E} {k : Ks} (hk : KsOk V k) (hs : e.sc V d) (h : congB k e = true) : e.tr V = true := by
  unfold congB at h
  split at h
  · rename_i a n b n'
    obtain ⟨h1, h2⟩ := and_bif h
    have h1 := of_decide_eq_true h1
    subst h1
    split at h2
    · rename_i hb
      have := decB_ok (e := .cmp .eql a b) hk (show _ ∧ _ from ⟨hs.1.1, hs.2.1⟩) hb
      rw [tr_cmp] at this ⊢
      simp only [cmpD, beq_iff_eq] at this ⊢
      rw [den_bin, den_bin, this]
    · cases h2
  · cases h
/-- where c is not known, both ways with it -/
def decI (k : Ks) : E → Option Bool
  | .ite c a b => (match decB k (.ite c a b) with
    | some x => some x
    | none => (match decI k c with
      | some true => decI k a
      | some false => decI k b
      | none => (match decI ((c, true) :: k) a, decI ((c, false) :: k) b with
        | some x, some y => bif blSame x y then some x else none
        | _, _ => none)))
  | e => (match decB k e with
    | some x => some x
    | none => bif congB k e then some true else none)
theorem KsOk.cons {V : Env} {k : Ks} {c : E} {b : Bool} (h : c.tr V = b) (hk : KsOk V k) : KsOk V ((c, b) :: k) := fun q hq => by
  rcases List.mem_cons.1 hq with rfl | hq
  · exact h
  · exact hk q hq
theorem decI_ok {V : Env} {d : Nat → Prop} : ∀ {e : E} {k : Ks} {b : Bool}, KsOk V k → e.sc V d → decI k e = some b → e.tr V = b := by
  have base : ∀ {e : E} {k : Ks} {b : Bool}, KsOk V k → e.sc V d → (match decB k e with
    | some x => some x
    | none => bif congB k e then some true else none) = some b → e.tr V = b := fun {e k b} hk hs h => by
    split at h
    · rename_i x hx; cases h; exact decB_ok hk hs hx
    · cases ha : congB k e with
      | true => rw [ha, cond_true] at h; cases h; exact congB_ok hk hs ha
      | false => rw [ha, cond_false] at h; cases h
  intro e
  induction e with
  | ite c a a' ihc iha ihb =>
    intro k b hk hs h
    unfold decI at h
    split at h
    · rename_i x hx; cases h; exact decB_ok hk hs hx
    · rw [tr_ite]
      split at h
      · rename_i hc; rw [ihc hk hs.1 hc, if_pos rfl]; exact iha hk hs.2.1 h
      · rename_i hc; rw [ihc hk hs.1 hc, if_neg (by decide)]; exact ihb hk hs.2.2 h
      · split at h
        · rename_i x y h1 h2
          cases hb : blSame x y with
          | true =>
            rw [hb, cond_true] at h; cases h
            cases hc : c.tr V with
            | true => rw [if_pos rfl]; exact iha (hk.cons hc) hs.2.1 h1
            | false => rw [if_neg (by decide), blSame_ok hb]; exact ihb (hk.cons hc) hs.2.2 h2
          | false => rw [hb, cond_false] at h; cases h
        · cases h
  | lit _ => intro k b hk hs h; exact base hk hs h
  | var _ _ _ => intro k b hk hs h; exact base hk hs h
  | bin _ _ _ _ _ _ => intro k b hk hs h; exact base hk hs h
  | pl _ _ _ _ _ => intro k b hk hs h; exact base hk hs h
  | cast _ _ _ => intro k b hk hs h; exact base hk hs h
  | tt _ => intro k b hk hs h; exact base hk hs h
  | bvar _ => intro k b hk hs h; exact base hk hs h
  | cmp _ _ _ _ _ => intro k b hk hs h; exact base hk hs h
  | no _ _ => intro k b hk hs h; exact base hk hs h
  | ix _ _ _ _ => intro k b hk hs h; exact base hk hs h
/-- are these tests so, of these terms? -/
def holdsB (k : Ks) (σ : List E) : Ks → Bool
  | [] => true
  | (e, b) :: r => (match decI k (e.sb σ) with
    | some x => bif blSame x b then holdsB k σ r else false
    | none => false)
theorem holdsB_ok {V : Env} {d : Nat → Prop} {k : Ks} (hk : KsOk V k) {σ : List E} {rs : List (Int × Int)} (hσ : ∀ e ∈ σ, e.sc V d) (hl : σ.length = rs.length) : ∀ {o : Ks}, o.all (fun q => scTy rs true q.1) = true → holdsB k σ o = true → KsOk (env0 (σ.map (E.den V))) o
  | [], _, _ => fun q hq => nomatch hq
  | (e, b) :: r, h1, h2 => by
    simp only [List.all_cons, Bool.and_eq_true] at h1
    unfold holdsB at h2
    split at h2
    · rename_i x hx
      obtain ⟨h3, h4⟩ := and_bif h2
      obtain ⟨s1, _, s3⟩ := sb_ok hσ hl h1.1
      intro q hq
      rcases List.mem_cons.1 hq with rfl | hq
      · show e.tr _ = b
        rw [← s3 rfl, decI_ok hk s1 hx, blSame_ok h3]
      · exact holdsB_ok hk hσ hl h1.2 h4 q hq
    · cases h2
theorem scB_ok {ft : Ft} {rs : List (Int × Int)} {args : List Int} (h : InB rs args) {d : Nat → Prop} (hd : ∀ i, i < rs.length → d i) : ∀ {e : E}, scB rs e = true → e.sc (envA ft args) d
  | .lit _, _ => trivial
  | .var lo hi i, hb => by
    unfold scB at hb
    split at hb
    · rename_i l u hr
      obtain ⟨h1, h2⟩ := and_bif hb
      have h1 := of_decide_eq_true h1
      have h2 := of_decide_eq_true h2
      have := inB_get h hr
      refine ⟨hd i (List.getElem?_eq_some_iff.1 hr).1, ?_, ?_⟩
      · show lo ≤ args.getD i 0; simp only at this; omega
      · show args.getD i 0 ≤ hi; simp only at this; omega
    · cases hb
  | .bin _ _ a b, hb => by obtain ⟨h1, h2⟩ := and_bif hb; exact ⟨scB_ok h hd h1, scB_ok h hd h2⟩
  | .pl _ a b, hb => by obtain ⟨h1, h2⟩ := and_bif hb; exact ⟨scB_ok h hd h1, scB_ok h hd h2⟩
  | .cast _ a, hb => scB_ok (e := a) h hd hb
  | .ite c a b, hb => by obtain ⟨h1, h2⟩ := and_bif hb; obtain ⟨h2, h3⟩ := and_bif h2; exact ⟨scB_ok h hd h1, scB_ok h hd h2, scB_ok h hd h3⟩
  | .tt _, _ => trivial
  | .bvar _, hb => nomatch hb
  | .cmp _ a b, hb => by obtain ⟨h1, h2⟩ := and_bif hb; exact ⟨scB_ok h hd h1, scB_ok h hd h2⟩
  | .no a, hb => scB_ok (e := a) h hd hb
  | .ix _ _ _, hb => nomatch hb
/-- one less than what is not 0 -/
def subR (k : Ks) (l h : Int) : E → Bool
  | .bin .sub .u64 a (.lit (.ofNat 1)) => (match a.rng with
    | some (l', h') => bif decide (0 ≤ l') then (bif decide (h' ≤ 18446744073709551615) then (bif decide (l ≤ 0) then (bif decide (h' - 1 ≤ h) then nzF k a else false) else false) else false) else false
    | none => false)
  | _ => false
theorem subR_ok {V : Env} {d : Nat → Prop} {k : Ks} (hk : KsOk V k) {l h : Int} {e : E} (hs : e.sc V d) (hb : subR k l h e = true) : l ≤ e.den V ∧ e.den V ≤ h := by
  unfold subR at hb
  split at hb
  · rename_i a
    split at hb
    · rename_i l' h' hr
      obtain ⟨h1, hb⟩ := and_bif hb
      obtain ⟨h2, hb⟩ := and_bif hb
      obtain ⟨h3, hb⟩ := and_bif hb
      obtain ⟨h4, h5⟩ := and_bif hb
      have h1 := of_decide_eq_true h1
      have h2 := of_decide_eq_true h2
      have h3 := of_decide_eq_true h3
      have h4 := of_decide_eq_true h4
      have hn := nzF_ok hk hs.1 h5
      have hr := E.rng_ok V d a l' h' hs.1 hr
      have e1 : (E.bin .sub .u64 a (.lit (.ofNat 1))).den V = a.den V - 1 := by
        rw [den_bin, den_lit]
        show IntKind.u64.wrap (a.den V - Int.ofNat 1) = _
        simp only [Int.ofNat_eq_natCast]
        exact wrap_in .u64 _ (by show (0 : Int) ≤ _; omega) (by show _ ≤ (18446744073709551615 : Int); omega)
      rw [e1]
      omega
    · cases hb
  · cases hb
/-- is it between these bounds? by itself, or by what is known -/
def inR1 (k : Ks) (l h : Int) (e : E) : Bool :=
  match (match e.rng with
    | some (l', h') => (bif decide (l ≤ l') then decide (h' ≤ h) else false)
    | none => false) with
  | true => true
  | false => match rngF k e with
    | some (l', h') => bif (bif decide (l ≤ l') then decide (h' ≤ h) else false) then true else subR k l h e
    | none => subR k l h e
theorem inR1_ok {V : Env} {d : Nat → Prop} {k : Ks} (hk : KsOk V k) {l h : Int} {e : E} (hs : e.sc V d) (hb : inR1 k l h e = true) : l ≤ e.den V ∧ e.den V ≤ h := by
  unfold inR1 at hb
  split at hb
  · rename_i hr
    split at hr
    · rename_i l' h' hr'
      obtain ⟨h1, h2⟩ := and_bif hr
      have h1 := of_decide_eq_true h1
      have h2 := of_decide_eq_true h2
      have := E.rng_ok V d e l' h' hs hr'
      omega
    · cases hr
  · split at hb
    · rename_i l' h' hr'
      cases hh : (bif decide (l ≤ l') then decide (h' ≤ h) else false) with
      | true =>
        obtain ⟨h1, h2⟩ := and_bif hh
        have h1 := of_decide_eq_true h1
        have h2 := of_decide_eq_true h2
        have := rngF_ok hk hs _ _ hr'
        omega
      | false => rw [hh, cond_false] at hb; exact subR_ok hk hs hb
    · exact subR_ok hk hs hb
/-- are they between these bounds? -/
def inRs (k : Ks) : List (Int × Int) → List E → Bool
  | [], [] => true
  | (l, h) :: rs, e :: es => bif inR1 k l h e then inRs k rs es else false
  | _, _ => false
theorem inRs_ok {V : Env} {d : Nat → Prop} {k : Ks} (hk : KsOk V k) : ∀ {rs : List (Int × Int)} {es : List E}, inRs k rs es = true → (∀ e ∈ es, e.sc V d) → InB rs (es.map (E.den V))
  | [], [], _, _ => ⟨rfl, fun j r n h => by simp at h⟩
  | (l, h) :: rs, e :: es, hb, hs => by
    unfold inRs at hb
    obtain ⟨h1, hb⟩ := and_bif hb
    obtain ⟨m1, m2⟩ := inRs_ok hk hb fun x hx => hs x (List.mem_cons_of_mem _ hx)
    have := inR1_ok hk (hs e List.mem_cons_self) h1
    refine ⟨by simp at m1 ⊢; exact m1, fun j r n hj hn => ?_⟩
    cases j with
    | zero =>
      simp only [List.getElem?_cons_zero, Option.some.injEq, List.map_cons] at hj hn
      subst hj; subst hn
      exact this
    | succ j => exact m2 j r n (by simpa using hj) (by simpa using hn)
  | [], _ :: _, hb, _ => nomatch hb
  | _ :: _, [], hb, _ => nomatch hb
def resB (rsh : Rs) (ors rs : List (Int × Int)) (ok : Ks) (a : SV × Hp) : Bool :=
  match rsEs rsh a.1 with
  | some es => bif inRs a.2.gh.k ors es then holdsB a.2.gh.k (es ++ vars 0 rs) ok else false
  | none => false
def argsG (ss : List Sh) (rs : List (Int × Int)) : List SV := (shSVs ss (vars 0 rs)).map .pv
def Fof (t : XR) (rsh : Rs) (ft : Ft) (args : List Int) : List Int :=
  match t.pick (envA ft args) with
  | some (V', sv, _) => ((rsEs rsh sv).getD []).map (E.den V')
  | none => []
/-- what a call ends in: that value, all that was there as it was -/
def Gives (v : Value) (w : World) (e : Ending) (w' : World) : Prop := e = .returned v ∧ Below w.heap.size w w'
theorem calls_some {P : Program} {f : FuncId} {args : Array Value} {w : World} {R : Ending → World → Prop} (h : Calls P f args w R) : ∃ e w', R e w' := by
  obtain ⟨e, w', _, h1, _⟩ := h []
  exact ⟨e, w', h1⟩
theorem All2.map_pv {C : Ctx} : ∀ {ps : List PV} {vs : List Value}, All2 (PV.rel C) ps vs → All2 (SV.rel C) (ps.map .pv) vs
  | _, _, .nil => .nil
  | _, _, .cons h1 h2 => .cons h1 (All2.map_pv h2)
section
variable {P : Program} {tb : Tb} {orc : Orc} {ft : Ft} {f0 g0 : FuncId} {ss : List Sh} {rs ors : List (Int × Int)} {fk ok : Ks} {rsh : Rs} {lf n : Nat}
theorem argsG_rel {args : List Int} (h : InB rs args) (hl : rs.length ≤ 1000) : All2 (SV.rel (ctx1 (envA ft args))) (argsG ss rs) (shVs ss args) ∧ ∀ e ∈ vars 0 rs, e.sc (envA ft args) fun i => i < 1000 := by
  have hsc : ∀ e ∈ vars 0 rs, e.sc (envA ft args) fun i => i < 1000 := fun e he => by
    obtain ⟨j, r, h1, rfl⟩ := vars_get he
    have hj : j < rs.length := (List.getElem?_eq_some_iff.1 h1).1
    have := inB_get h h1
    simp only [Nat.zero_add]
    exact ⟨by omega, this.1, this.2⟩
  have hden : (vars 0 rs).map (E.den (envA ft args)) = args := vars_den h.1 fun j m hj => by
    show args.getD (0 + j) 0 = m
    simp [List.getD, hj]
  have := shSVs_rel (C := ctx1 (envA ft args)) ss hsc
  rw [show (ctx1 (envA ft args)).V = envA ft args from rfl, hden] at this
  exact ⟨this.map_pv, hsc⟩
theorem hrelF {args : List Int} (h : InB rs args) (hl : rs.length ≤ 1000) (hf : fk.all (fun q => scB rs q.1) = true) (hk : KsOk (env0 args) fk) (w : World) : HRel (ctx1 (envA ft args)) (hpF fk) w :=
  ⟨⟨fun b blk h => by simp [hpF, hget] at h, fun b b' blk blk' g c c' h => by simp [hpF, hget] at h⟩,
   ⟨fun _ h => h, (fun _ h => nomatch h), fun q hq => ⟨scB_ok h (fun i hi => by show i < 1000; omega) (List.all_eq_true.1 hf q hq), hk.env q hq⟩, (fun _ h => nomatch h)⟩,
   (fun b blk g c h => by simp [hpF, hget] at h), (fun b blk g c h => by simp [hpF, hget] at h), fun b hb => ⟨rfl, fun h => by
    rcases hb with ⟨h1, _⟩ | ⟨r, hr, _⟩
    · simp only [hpF] at h1; exact absurd h (by show ¬ b < 1000; omega)
    · simp [hpF] at hr⟩, fun b g c h => nomatch h⟩
theorem Kp.belowN {V : Env} {vd : Nat → Prop} {bl : Nat → Option (Nat × Nat)} {w : World} {C' : Ctx} {w' : World} (h : Kp ⟨V, vd, bl, noExt, fun _ => False, fun _ => False⟩ w C' w') : Below w.heap.size w w' :=
  ⟨h.os, h.tape, h.output, h.size, fun k hk => h.keep k hk (fun e => e) (fun e => e)⟩
/-- the run, told -/
theorem run_told (htb : TbOk P tb) (hm : P.follows .mixedOrders = true) (ho : OrcOk P noExt ft orc) (hl : rs.length ≤ 1000) (hf : fk.all (fun q => scB rs q.1) = true)
    (h1 : (xfn P tb orc lf n f0 (argsG ss rs) (hpF fk)).one = true) (p : SV × Hp → Bool) (hr : (xfn P tb orc lf n f0 (argsG ss rs) (hpF fk)).every p = true) {args : List Int} (hi : InB rs args) (hk : KsOk (env0 args) fk) (w : World) :
    Calls P f0 (shVs ss args).toArray w fun e w' => ∃ C' v sv hp', e = .returned v ∧ sv.rel C' v ∧ HRel C' hp' w' ∧ Kp (ctx1 (envA ft args)) w C' w' ∧ (xfn P tb orc lf n f0 (argsG ss rs) (hpF fk)).pick (envA ft args) = some (C'.V, (sv, hp')) ∧ p (sv, hp') = true :=
  xfn_ok (X := noExt) (ft := ft) htb ho hm lf n f0 (argsG ss rs) (hpF fk) (ctx1 (envA ft args)) w (shVs ss args) ⟨rfl, rfl, fun _ _ h => nomatch h⟩ (hrelF hi hl hf hk w) (argsG_rel hi hl).1
    (fun V' a => (xfn P tb orc lf n f0 (argsG ss rs) (hpF fk)).pick (envA ft args) = some (V', a) ∧ p a = true) (T.holds_pick h1 (T.every_holds hr))
/-- what a function answers is a function of the numbers -/
theorem sum_of_run (htb : TbOk P tb) (hm : P.follows .mixedOrders = true) (ho : OrcOk P noExt ft orc) (hl : rs.length ≤ 1000) (hf : fk.all (fun q => scB rs q.1) = true)
    (h1 : (xfn P tb orc lf n f0 (argsG ss rs) (hpF fk)).one = true) (hso : ok.all (fun q => scTy (ors ++ rs) true q.1) = true) (hr : (xfn P tb orc lf n f0 (argsG ss rs) (hpF fk)).every (resB rsh ors rs ok) = true) {args : List Int} (hi : InB rs args) (hk : KsOk (env0 args) fk) (w : World) :
    (InB ors (Fof (xfn P tb orc lf n f0 (argsG ss rs) (hpF fk)) rsh ft args) ∧ KsOk (env0 (Fof (xfn P tb orc lf n f0 (argsG ss rs) (hpF fk)) rsh ft args ++ args)) ok) ∧ Calls P f0 (shVs ss args).toArray w (Gives (rsV rsh (Fof (xfn P tb orc lf n f0 (argsG ss rs) (hpF fk)) rsh ft args)) w) := by
  have key := run_told htb hm ho hl hf h1 (resB rsh ors rs ok) hr hi hk w
  have told : ∀ {e : Ending} {w' : World}, (∃ C' v sv hp', e = .returned v ∧ sv.rel C' v ∧ HRel C' hp' w' ∧ Kp (ctx1 (envA ft args)) w C' w' ∧ (xfn P tb orc lf n f0 (argsG ss rs) (hpF fk)).pick (envA ft args) = some (C'.V, (sv, hp')) ∧ resB rsh ors rs ok (sv, hp') = true) →
      (InB ors (Fof (xfn P tb orc lf n f0 (argsG ss rs) (hpF fk)) rsh ft args) ∧ KsOk (env0 (Fof (xfn P tb orc lf n f0 (argsG ss rs) (hpF fk)) rsh ft args ++ args)) ok) ∧ Gives (rsV rsh (Fof (xfn P tb orc lf n f0 (argsG ss rs) (hpF fk)) rsh ft args)) w e w' := by
    rintro e w' ⟨C', v, sv, hp', rfl, hrel, hH, hK, hp, hb⟩
    unfold resB at hb
    split at hb
    · rename_i es hes
      obtain ⟨m1, rfl⟩ := rsEs_ok hes hrel
      have hF : Fof (xfn P tb orc lf n f0 (argsG ss rs) (hpF fk)) rsh ft args = es.map (E.den C'.V) := by
        unfold Fof; rw [hp]; simp only [hes, Option.getD_some]
      rw [hF]
      obtain ⟨hb1, hb2⟩ := and_bif hb
      have hin := inRs_ok hH.ks hb1 m1
      obtain ⟨_, hvs⟩ := argsG_rel (ss := ss) (ft := ft) hi hl
      have hva : (vars 0 rs).map (E.den C'.V) = args := (den_map (C := ctx1 (envA ft args)) hK.le hvs).trans (vars_den hi.1 fun j m hj => by
        show args.getD (0 + j) 0 = m
        simp [List.getD, hj])
      have hlen : (vars 0 rs).length = rs.length := by
        have := congrArg List.length hva
        simp only [List.length_map] at this
        rw [this, hi.1]
      have := holdsB_ok hH.ks (σ := es ++ vars 0 rs) (rs := ors ++ rs) (fun e he => by
        rcases List.mem_append.1 he with he | he
        · exact m1 e he
        · exact (E.sc_le hK.le e (hvs e he)).1) (by have := hin.1; simp at this; simp [this, hlen]) hso hb2
      rw [List.map_append, hva] at this
      exact ⟨⟨hin, this⟩, rfl, hK.belowN⟩
    · cases hb
  obtain ⟨e, w', hh⟩ := calls_some key
  exact ⟨(told hh).1, key.mono fun e w' hh => (told hh).2⟩
/-- what is known of numbers, no block -/
def hpNext (hp : Hp) : Hp := ⟨[], hp.nx, hp.lim, [], ⟨hp.gh.k, hp.gh.d, []⟩⟩
def sameR (rsh : Rs) (a b : SV) : Bool :=
  match rsEs rsh a, rsEs rsh b with
  | some x, some y => allEq x y
  | _, _ => false
/-- another function answers the same -/
theorem same_of_run (htb : TbOk P tb) (hm : P.follows .mixedOrders = true) (ho : OrcOk P noExt ft orc) (hl : rs.length ≤ 1000) (hf : fk.all (fun q => scB rs q.1) = true)
    (h1 : (xfn P tb orc lf n f0 (argsG ss rs) (hpF fk)).one = true) (hr : (xfn P tb orc lf n f0 (argsG ss rs) (hpF fk)).every (fun a => (xfn P tb orc lf n g0 (argsG ss rs) (hpNext a.2)).every fun b => sameR rsh a.1 b.1) = true) {args : List Int} (hi : InB rs args) (hk : KsOk (env0 args) fk) (w : World) :
    Calls P g0 (shVs ss args).toArray w (Gives (rsV rsh (Fof (xfn P tb orc lf n f0 (argsG ss rs) (hpF fk)) rsh ft args)) w) := by
  obtain ⟨e, w', C', v, sv, hp', rfl, hrel, hH, hK, hp, hb⟩ := calls_some (run_told htb hm ho hl hf h1 _ hr hi hk w)
  simp only at hb
  have hG : GhOk C'.V C'.vd noExt (fun _ => none) (fun _ => False) (hpNext hp').gh w := ⟨fun _ h => h, (fun _ h => nomatch h), hH.ext.facts, hH.ext.defs⟩
  let C2 : Ctx := ⟨C'.V, C'.vd, fun _ => none, noExt, fun _ => False, fun _ => False⟩
  have hH2 : HRel C2 (hpNext hp') w := ⟨⟨fun b blk h => by simp [hpNext, hget] at h, fun b b' blk blk' g c c' h => by simp [hpNext, hget] at h⟩, hG, (fun b blk g c h => by simp [hpNext, hget] at h), (fun b blk g c h => by simp [hpNext, hget] at h), fun b hb => ⟨rfl, by
    rcases hb with ⟨h1, h2⟩ | ⟨r, hr, _⟩
    · exact (hH.free b (.inl ⟨h1, h2⟩)).2
    · simp [hpNext] at hr⟩, fun b g c h => nomatch h⟩
  obtain ⟨ha, hsc⟩ := argsG_rel (ss := ss) (ft := ft) hi hl
  have hle : Ctx.le (ctx1 (envA ft args)) C2 := ⟨hK.le.v, hK.le.f, rfl, fun b x h => nomatch h⟩
  have ha2 : All2 (SV.rel C2) (argsG ss rs) (shVs ss args) := ha.mono fun _ _ => SV.rel.le hle
  have hft : C2.V.f = ft := hK.le.f
  refine (xfn_ok (X := noExt) (ft := ft) htb ho hm lf n g0 (argsG ss rs) (hpNext hp') C2 w (shVs ss args) ⟨hft, rfl, fun _ _ h => nomatch h⟩ hH2 ha2 _ (T.every_holds hb)).mono ?_
  rintro e w2 ⟨C3, v3, sv3, hp3, rfl, hrel3, hH3, hK3, hb3⟩
  simp only [sameR] at hb3
  split at hb3
  · rename_i es es3 hes hes3
    obtain ⟨m1, rfl⟩ := rsEs_ok hes hrel
    obtain ⟨m3, rfl⟩ := rsEs_ok hes3 hrel3
    have hF : Fof (xfn P tb orc lf n f0 (argsG ss rs) (hpF fk)) rsh ft args = es.map (E.den C'.V) := by
      unfold Fof; rw [hp]; simp only [hes, Option.getD_some]
    have e1 : es.map (E.den C3.V) = es.map (E.den C'.V) := den_map (C := C2) (C' := C3) hK3.le m1
    refine ⟨?_, hK3.belowN⟩
    rw [hF, ← e1, allEq_ok C3.V hb3]
  · cases hb3
end
/-! ### such an answer as a contract -/
/-- a function answers what F says -/
def Tells (P : Program) (f : FuncId) (ss : List Sh) (rs : List (Int × Int)) (fk : Ks) (rsh : Rs) (ors : List (Int × Int)) (ok : Ks) (F : List Int → List Int) : Prop :=
  ∀ args, InB rs args → KsOk (env0 args) fk → ∀ w, (InB ors (F args) ∧ KsOk (env0 (F args ++ args)) ok) ∧ Calls P f (shVs ss args).toArray w (Gives (rsV rsh (F args)) w)
def asPVs' : List SV → Option (List PV)
  | [] => some []
  | .pv p :: r => match asPVs' r with
    | some l => some (p :: l)
    | none => none
  | _ => none
theorem asPVs'_ok {C : Ctx} : ∀ {as : List SV} {ps : List PV} {vs : List Value}, asPVs' as = some ps → All2 (SV.rel C) as vs → All2 (PV.rel C) ps vs
  | [], ps, vs, h, hv => by cases h; cases hv; exact .nil
  | a :: r, ps, vs, h, hv => by
    unfold asPVs' at h
    split at h
    · rename_i heq; cases heq
    · rename_i p r' heq
      cases heq
      split at h
      · cases h
        cases hv with
        | cons h1 h2 => exact .cons h1 (asPVs'_ok (by assumption) h2)
      · cases h
    · cases h
def sbK (σ : List E) : Ks → Ks
  | [] => []
  | (e, b) :: r => (e.sb σ, b) :: sbK σ r
theorem sbK_ok {V : Env} {d : Nat → Prop} {σ : List E} {rs : List (Int × Int)} (hσ : ∀ e ∈ σ, e.sc V d) (hl : σ.length = rs.length) : ∀ {o : Ks}, o.all (fun q => scTy rs true q.1) = true → KsOk (env0 (σ.map (E.den V))) o → ∀ q ∈ sbK σ o, q.1.sc V d ∧ q.1.tr V = q.2
  | [], _, _, q, hq => nomatch hq
  | (e, b) :: r, h1, h2, q, hq => by
    simp only [List.all_cons, Bool.and_eq_true] at h1
    rcases List.mem_cons.1 hq with rfl | hq
    · obtain ⟨s1, _, s3⟩ := sb_ok hσ hl h1.1
      exact ⟨s1, (s3 rfl).trans (h2 (e, b) List.mem_cons_self)⟩
    · exact sbK_ok hσ hl h1.2 h2.tail q hq
def tellOrc (f0 : FuncId) (i : Nat) (ss : List Sh) (rs : List (Int × Int)) (fk : Ks) (rsh : Rs) (ors : List (Int × Int)) (ok : Ks) : Orc := fun f args hp =>
  bif Nat.beq f f0 then
    match asPVs' args with
    | some ps => match shEs ss ps with
      | some es => bif inRs hp.gh.k rs es then (bif holdsB hp.gh.k es fk then some (xlets hp i es ors (fun vs => sbK (vs ++ es) ok) fun vs hp => svK (rsSV rsh vs) fun v => .ret (v, hp)) else some (.bad "what must be known")) else some (.bad "bounds of arguments")
      | none => some (.bad "form of arguments")
    | none => some (.bad "arguments")
  else none
theorem HRel.below' {C : Ctx} {hp : Hp} {w w' : World} (h : HRel C hp w) (hb : Below w.heap.size w w') : HRel C hp w' ∧ Kp C w C w' := by
  refine ⟨⟨⟨fun b blk hb' => ?_, h.inj⟩, h.ext.keep hb.size (fun g hg => hb.block g (h.ext.lt g hg)), h.apart, h.own, h.free, fun b g c hb1 => Nat.lt_of_lt_of_le (h.blt b g c hb1) hb.size⟩, .refl C, hb.size, hb.tape, hb.os, hb.output, fun g hg _ _ => hb.block g hg, fun _ h => .inl h, fun _ h => .inl h, fun b _ c h => .inl ⟨b, c, h⟩⟩
  obtain ⟨g, c, k1, k2⟩ := h.at_ b blk hb'
  exact ⟨g, c, k1, by rw [hb.block g k2.lt]; exact k2⟩
theorem CallOk.bad {P : Program} {C : Ctx} {w : World} {f : FuncId} {vs : Array Value} {why : String} : CallOk P C w f vs (.bad why) := fun _ h => h.elim
theorem tellOrc_ok {P : Program} {X : Ext} {ft : Ft} {f0 : FuncId} {i : Nat} {ss : List Sh} {rs : List (Int × Int)} {fk ok : Ks} {rsh : Rs} {ors : List (Int × Int)} (hsf : fk.all (fun q => scTy rs true q.1) = true) (hso : ok.all (fun q => scTy (ors ++ rs) true q.1) = true) (ht : Tells P f0 ss rs fk rsh ors ok (ft i)) : OrcOk P X ft (tellOrc f0 i ss rs fk rsh ors ok) := by
  intro f args hp t h0 C w vs hC h hv
  unfold tellOrc at h0
  cases hb : Nat.beq f f0 with
  | false => rw [hb, cond_false] at h0; cases h0
  | true =>
    rw [hb, cond_true] at h0
    have hf : f = f0 := Nat.eq_of_beq_eq_true hb
    subst hf
    split at h0
    · rename_i ps hps
      split at h0
      · rename_i es hes
        obtain ⟨m1, m2⟩ := shEs_ok hes (asPVs'_ok hps hv)
        cases hin : inRs hp.gh.k rs es with
        | false => rw [hin, cond_false] at h0; cases h0; exact CallOk.bad
        | true =>
          rw [hin, cond_true] at h0
          cases hpre : holdsB hp.gh.k es fk with
          | false => rw [hpre, cond_false] at h0; cases h0; exact CallOk.bad
          | true =>
          rw [hpre, cond_true] at h0
          cases h0
          intro Φ hx
          have hI := inRs_ok h.ks hin m1
          obtain ⟨⟨k1, k3⟩, k2⟩ := ht _ hI (holdsB_ok h.ks m1 (by have := hI.1; simpa using this) hsf hpre) w
          rw [← hC.1] at k1 k2 k3
          obtain ⟨C', hp', outs, n1, n2, n3, n4, n5, _⟩ := xlets_ok h m1 k1 (fun C1 vs1 hle1 hs1 hd1 => sbK_ok (rs := ors ++ rs) (fun e he => by
            rcases List.mem_append.1 he with he | he
            · exact hs1 e he
            · exact (E.sc_le hle1 e (m1 e he)).1) (by
            have e1 := congrArg List.length hd1
            have e2 := k1.1
            have e3 := hI.1
            simp only [List.length_map] at e1 e3
            simp only [List.length_append]
            omega) hso (by rw [List.map_append, hd1, den_map hle1 m1]; exact k3)) hx
          rw [svK_eq] at n5
          rw [m2]
          refine k2.mono ?_
          rintro e w' ⟨rfl, hbel⟩
          obtain ⟨q1, q2⟩ := n1.below' hbel
          refine ⟨C', _, _, hp', rfl, ?_, q1, n2.trans q2, n5⟩
          rw [← n4]
          exact rsSV_rel rsh n3
      · cases h0; exact CallOk.bad
    · cases h0; exact CallOk.bad
end
end Go.Proofs.YtkogjjeoihnjpaaGreat.Sx
end
section
set_option linter.unusedVariables false
set_option linter.unusedSimpArgs false
namespace Go.Proofs.YtkogjjeoihnjpaaGreat.Sx
open Go Go.RowKit
noncomputable section
/-- a truth that is not told yet -/
def asked (r : SV × Hp) : XR :=
  match r.1 with
  | .pv (.one (.bool e)) => xif e r.2 (fun hp => .ret (.pv (.one (.bool (.tt true))), hp)) (fun hp => .ret (.pv (.one (.bool (.tt false))), hp))
  | _ => .bad "no truth"
/-- is it b, by what is known? -/
def isB' (b : Bool) (a : SV × Hp) : Bool :=
  match a.1 with
  | .pv (.one (.bool e)) => (match knownF a.2.gh.k e with
    | some x => blSame x b
    | none => false)
  | _ => false
theorem isB'_ok {C : Ctx} {w : World} {b : Bool} {sv : SV} {hp : Hp} {v : Value} (h : isB' b (sv, hp) = true) (hr : sv.rel C v) (hH : HRel C hp w) : v = .bool b := by
  unfold isB' at h
  simp only at h
  split at h
  · rename_i e
    split at h
    · rename_i x hx
      have := knownF_ok hH.ks hr.1 hx
      rw [hr.2, this, blSame_ok h]
    · cases h
  · cases h
/-- a function answers b wherever that is known -/
def Says (P : Program) (f : FuncId) (ss : List Sh) (rs : List (Int × Int)) (fk : Ks) (b : Bool) : Prop :=
  ∀ args, InB rs args → KsOk (env0 args) fk → ∀ w, Calls P f (shVs ss args).toArray w (Gives (.bool b) w)
theorem says_of_run {P : Program} {tb : Tb} {orc : Orc} {ft : Ft} {f0 : FuncId} {ss : List Sh} {rs : List (Int × Int)} {fk : Ks} {lf n : Nat} {b : Bool} (htb : TbOk P tb) (hm : P.follows .mixedOrders = true) (ho : OrcOk P noExt ft orc) (hl : rs.length ≤ 1000) (hf : fk.all (fun q => scB rs q.1) = true)
    (hr : (xfn P tb orc lf n f0 (argsG ss rs) (hpF fk)).every (isB' b) = true) : Says P f0 ss rs fk b := by
  intro args hi hk w
  refine (xfn_ok (X := noExt) (ft := ft) htb ho hm lf n f0 (argsG ss rs) (hpF fk) (ctx1 (envA ft args)) w (shVs ss args) ⟨rfl, rfl, fun _ _ h => nomatch h⟩ (hrelF hi hl hf hk w) (argsG_rel hi hl).1
    (fun _ a => isB' b a = true) (T.every_holds hr)).mono ?_
  rintro e w' ⟨C', v, sv, hp', rfl, hrel, hH, hK, hb⟩
  exact ⟨by rw [isB'_ok hb hrel hH], hK.belowN⟩
def sayOrc (f0 : FuncId) (ss : List Sh) (rs : List (Int × Int)) (fk : Ks) (b : Bool) : Orc := fun f args hp =>
  bif Nat.beq f f0 then
    match asPVs' args with
    | some ps => match shEs ss ps with
      | some es => bif inRs hp.gh.k rs es then (bif holdsB hp.gh.k es fk then some (.ret (.pv (.one (.bool (.tt b))), hp)) else none) else none
      | none => none
    | none => none
  else none
theorem sayOrc_ok {P : Program} {X : Ext} {ft : Ft} {f0 : FuncId} {ss : List Sh} {rs : List (Int × Int)} {fk : Ks} {b : Bool} (hsf : fk.all (fun q => scTy rs true q.1) = true) (ht : Says P f0 ss rs fk b) : OrcOk P X ft (sayOrc f0 ss rs fk b) := by
  intro f args hp t h0 C w vs hC h hv
  unfold sayOrc at h0
  cases hb : Nat.beq f f0 with
  | false => rw [hb, cond_false] at h0; cases h0
  | true =>
    rw [hb, cond_true] at h0
    have hf : f = f0 := Nat.eq_of_beq_eq_true hb
    subst hf
    split at h0
    · rename_i ps hps
      split at h0
      · rename_i es hes
        obtain ⟨m1, m2⟩ := shEs_ok hes (asPVs'_ok hps hv)
        cases hin : inRs hp.gh.k rs es with
        | false => rw [hin, cond_false] at h0; cases h0
        | true =>
          rw [hin, cond_true] at h0
          cases hpre : holdsB hp.gh.k es fk with
          | false => rw [hpre, cond_false] at h0; cases h0
          | true =>
            rw [hpre, cond_true] at h0
            cases h0
            intro Φ hx
            have hI := inRs_ok h.ks hin m1
            have := ht _ hI (holdsB_ok h.ks m1 (by have := hI.1; simpa using this) hsf hpre) w
            rw [m2]
            refine this.mono ?_
            rintro e w' ⟨rfl, hbel⟩
            obtain ⟨q1, q2⟩ := h.below' hbel
            exact ⟨C, .bool b, .pv (.one (.bool (.tt b))), hp, rfl, ⟨trivial, rfl⟩, q1, q2, hx⟩
      · cases h0
    · cases h0
  
/-- a run as it must be: one way at each test, its ends between bounds, with what is known then -/
def ranB (t : XR) (rsh : Rs) (ors rs : List (Int × Int)) (ok : Ks) : Bool := bif t.one then t.every (resB rsh ors rs ok) else false
theorem tells_of_run {P : Program} {tb : Tb} {orc : Orc} {ft : Ft} {f0 : FuncId} {ss : List Sh} {rs ors : List (Int × Int)} {fk ok : Ks} {rsh : Rs} {lf n : Nat} (htb : TbOk P tb) (hm : P.follows .mixedOrders = true) (ho : OrcOk P noExt ft orc) (hl : rs.length ≤ 1000) (hf : fk.all (fun q => scB rs q.1) = true) (hso : ok.all (fun q => scTy (ors ++ rs) true q.1) = true)
    (h : ranB (xfn P tb orc lf n f0 (argsG ss rs) (hpF fk)) rsh ors rs ok = true) : Tells P f0 ss rs fk rsh ors ok (Fof (xfn P tb orc lf n f0 (argsG ss rs) (hpF fk)) rsh ft) := by
  obtain ⟨h1, h2⟩ := and_bif h
  intro args hi hk w
  exact sum_of_run htb hm ho hl hf h1 hso h2 hi hk w
/-- by cases of one number -/
theorem Tells.cases {P : Program} {f0 : FuncId} {ss : List Sh} {rs ors : List (Int × Int)} {fk ok : Ks} {rsh : Rs} {i : Nat} {m : Nat} {u : Int} (hr : rs[i]? = some (.ofNat 0, u)) (hu : u ≤ m) {F : Nat → List Int → List Int}
    (h : ∀ j, j ≤ m → Tells P f0 ss rs (fk ++ [(.cmp .eql (.var (.ofNat 0) u i) (.lit (.ofNat j)), true)]) rsh ors ok (F j)) : Tells P f0 ss rs fk rsh ors ok (fun args => F (args.getD i 0).toNat args) := by
  intro args hi hk w
  have hb := inB_get hi hr
  have h0 : (0 : Int) ≤ args.getD i 0 := hb.1
  have h1 : args.getD i 0 ≤ u := hb.2
  refine h (args.getD i 0).toNat (by omega) args hi (fun q hq => ?_) w
  rcases List.mem_append.1 hq with hq | hq
  · exact hk q hq
  · rw [List.mem_singleton.1 hq]
    show (E.cmp .eql _ _).tr _ = true
    rw [tr_cmp, den_var, den_lit]
    show (args.getD i 0 == Int.ofNat (args.getD i 0).toNat) = true
    rw [beq_iff_eq]
    simp only [Int.ofNat_eq_natCast]
    omega
/-- by one test -/
theorem Tells.split {P : Program} {f0 : FuncId} {ss : List Sh} {rs ors : List (Int × Int)} {fk ok : Ks} {rsh : Rs} (e : E) {F G : List Int → List Int} (h1 : Tells P f0 ss rs (fk ++ [(e, true)]) rsh ors ok F) (h2 : Tells P f0 ss rs (fk ++ [(e, false)]) rsh ors ok G) :
    Tells P f0 ss rs fk rsh ors ok (fun args => if e.tr (env0 args) then F args else G args) := by
  intro args hi hk w
  have key : ∀ b, e.tr (env0 args) = b → KsOk (env0 args) (fk ++ [(e, b)]) := fun b hb q hq => by
    rcases List.mem_append.1 hq with hq | hq
    · exact hk q hq
    · rw [List.mem_singleton.1 hq]; exact hb
  cases hb : e.tr (env0 args) with
  | true =>
    have := h1 args hi (key true hb) w
    simp only [hb, if_true]; exact this
  | false =>
    have := h2 args hi (key false hb) w
    simp only [hb, Bool.false_eq_true, if_false]; exact this
/-- by the values of one number -/
theorem Tells.oneOf {P : Program} {f0 : FuncId} {ss : List Sh} {rs ors : List (Int × Int)} {fk ok : Ks} {rsh : Rs} {lo hi : Int} (i : Nat) (l : List Int) (hin : ∀ args, InB rs args → KsOk (env0 args) fk → args.getD i 0 ∈ l) {F : Int → List Int → List Int}
    (h : ∀ c ∈ l, Tells P f0 ss rs (fk ++ [(.cmp .eql (.var lo hi i) (.lit c), true)]) rsh ors ok (F c)) : Tells P f0 ss rs fk rsh ors ok (fun args => F (args.getD i 0) args) := by
  intro args hi hk w
  refine h _ (hin args hi hk) args hi (fun q hq => ?_) w
  rcases List.mem_append.1 hq with hq | hq
  · exact hk q hq
  · rw [List.mem_singleton.1 hq]
    show (E.cmp .eql _ _).tr _ = true
    rw [tr_cmp, den_var, den_lit]
    show (args.getD i 0 == args.getD i 0) = true
    exact beq_self_eq_true _
/-- contracts side by side -/
def orcL : List Orc → Orc
  | [] => noOrc
  | a :: l => orcOr a (orcL l)
theorem orcL_ok {P : Program} {X : Ext} {ft : Ft} : ∀ {l : List Orc}, (∀ o ∈ l, OrcOk P X ft o) → OrcOk P X ft (orcL l)
  | [], _ => noOrc_ok P X ft
  | a :: l, h => orcOr_ok (h a List.mem_cons_self) (orcL_ok fun o ho => h o (List.mem_cons_of_mem _ ho))
end
end Go.Proofs.YtkogjjeoihnjpaaGreat.Sx
end
