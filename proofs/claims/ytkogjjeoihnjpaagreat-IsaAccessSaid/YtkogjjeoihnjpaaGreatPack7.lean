/- A program run on terms: loops over maps. No condition. A program run on terms: statements. No condition. A program run on terms: functions. No condition. A program run on terms: a table of functions; ends looked at. No condition. A program run on terms: what a function answers is kept, for all arguments of a form. No condition. Structs of numbers that came in by value: their cells; contracts side by side. No condition. A program run on terms: functions that are not looked into; what a run picks. No condition. A program run on terms: a function's answer told by a function on numbers. No condition. -/
import Derived.Test.YtkogjjeoihnjpaaGreatPack6
import Derived.Maps.RangeRun
import Derived.Below
import Derived.ProofKit
import Derived.OpenShut
import Derived.ChangeOld
import Derived.Test.YtkogjjeoihnjpaaGreatPack3
section
set_option linter.unusedVariables false
set_option linter.unusedSimpArgs false
namespace Go.Proofs.YtkogjjeoihnjpaaGreat.Sx
open Go
noncomputable section
/-! ### statements -/
inductive XE where
  | nrm
  | ext (id : Nat)
  | ret
  deriving DecidableEq, Inhabited
def XE.real : XE → Exit
  | .nrm => .normal
  | .ext id => .exit id
  | .ret => .ret
abbrev XC := T (XE × St)
/-! ### one end, whatever the way -/
def T.det {α : Type} : T α → Bool
  | .ret _ => true
  | .ite _ t e => t.det && e.det
  | .bad _ => true
  | _ => false
def T.at {α : Type} (V : Env) : T α → Option α
  | .ret a => some a
  | .ite c t e => bif c.tr V then t.at V else e.at V
  | _ => none
theorem T.det_holds {α : Type} {Φ Ψ : Env → α → Prop} {V : Env} : ∀ {t : T α}, t.det = true → t.holds Φ V → (∀ r, t.at V = some r → Φ V r → Ψ V r) → t.holds Ψ V
  | .ret a, _, h, k => k a rfl h
  | .ite c t e, hd, h, k => by
    simp only [T.det, Bool.and_eq_true] at hd
    refine ⟨fun hc => T.det_holds hd.1 (h.1 hc) fun r hr => k r ?_, fun hc => T.det_holds hd.2 (h.2 hc) fun r hr => k r ?_⟩
    · simp only [T.at, hc, cond_true]; exact hr
    · simp only [T.at, hc, cond_false]; exact hr
  | .both t e, hd, h, k => nomatch hd
  | .lets f as s n t, hd, h, k => nomatch hd
  | .bad w, hd, h, k => h
  | .skip, hd, h, k => nomatch hd
theorem T.det_bind {α β : Type} {Φ : Env → β → Prop} {V : Env} {k : α → T β} {r : α} : ∀ {t : T α}, t.det = true → (t.bind k).holds Φ V → t.at V = some r → (k r).holds Φ V
  | .ret a, _, h, hr => by cases hr; exact h
  | .ite c t e, hd, h, hr => by
    simp only [T.det, Bool.and_eq_true] at hd
    cases hc : c.tr V with
    | true => simp only [T.at, hc, cond_true] at hr; exact T.det_bind hd.1 (h.1 hc) hr
    | false => simp only [T.at, hc, cond_false] at hr; exact T.det_bind hd.2 (h.2 hc) hr
  | .both t e, hd, h, hr => nomatch hd
  | .lets f as s n t, hd, h, hr => nomatch hd
  | .bad w, hd, h, hr => nomatch hr
  | .skip, hd, h, hr => nomatch hd
/-- the variables of an expression -/
def E.vs : E → List Nat
  | .lit _ => []
  | .var _ _ i => [i]
  | .bin _ _ a b => a.vs ++ b.vs
  | .pl _ a b => a.vs ++ b.vs
  | .cast _ a => a.vs
  | .ite c a b => c.vs ++ (a.vs ++ b.vs)
  | .tt _ => []
  | .bvar _ => []
  | .cmp _ a b => a.vs ++ b.vs
  | .no a => a.vs
  | .ix _ _ _ => []
/-- has it these variables alone? -/
def E.inV (l : List Nat) : E → Bool
  | .lit _ => true
  | .var _ _ i => l.any (Nat.beq i)
  | .bin _ _ a b => bif a.inV l then b.inV l else false
  | .pl _ a b => bif a.inV l then b.inV l else false
  | .cast _ a => a.inV l
  | .ite c a b => bif c.inV l then (bif a.inV l then b.inV l else false) else false
  | .tt _ => true
  | .bvar _ => false
  | .cmp _ a b => bif a.inV l then b.inV l else false
  | .no a => a.inV l
  | .ix _ _ _ => false
theorem E.vs_d {V : Env} {d : Nat → Prop} : ∀ {e : E}, e.sc V d → ∀ i ∈ e.vs, d i
  | .lit _, _, i, h => nomatch h
  | .var _ _ j, hs, i, h => by rw [List.mem_singleton.1 h]; exact hs.1
  | .bin _ _ a b, hs, i, h => (List.mem_append.1 h).elim (fun h => E.vs_d hs.1 i h) (fun h => E.vs_d hs.2 i h)
  | .pl _ a b, hs, i, h => (List.mem_append.1 h).elim (fun h => E.vs_d hs.1 i h) (fun h => E.vs_d hs.2 i h)
  | .cast _ a, hs, i, h => E.vs_d (e := a) hs i h
  | .ite c a b, hs, i, h => (List.mem_append.1 h).elim (fun h => E.vs_d hs.1 i h) (fun h => (List.mem_append.1 h).elim (fun h => E.vs_d hs.2.1 i h) (fun h => E.vs_d hs.2.2 i h))
  | .tt _, _, i, h => nomatch h
  | .bvar _, _, i, h => nomatch h
  | .cmp _ a b, hs, i, h => (List.mem_append.1 h).elim (fun h => E.vs_d hs.1 i h) (fun h => E.vs_d hs.2 i h)
  | .no a, hs, i, h => E.vs_d (e := a) hs i h
  | .ix _ _ _, _, i, h => nomatch h
theorem bifT {a b : Bool} (h : (bif a then b else false) = true) : a = true ∧ b = true := by cases a <;> cases b <;> simp_all
theorem E.inV_sc {V : Env} {d d' : Nat → Prop} {l : List Nat} (hl : ∀ i ∈ l, d i) : ∀ {e : E}, e.sc V d' → e.inV l = true → e.sc V d
  | .lit _, _, _ => trivial
  | .var _ _ j, hs, h => by
    obtain ⟨i, hi, hj⟩ := List.any_eq_true.1 (show l.any (Nat.beq j) = true from h)
    rw [Nat.eq_of_beq_eq_true hj] at hs ⊢
    exact ⟨hl i hi, hs.2⟩
  | .bin _ _ a b, hs, h => ⟨E.inV_sc hl hs.1 (bifT h).1, E.inV_sc hl hs.2 (bifT h).2⟩
  | .pl _ a b, hs, h => ⟨E.inV_sc hl hs.1 (bifT h).1, E.inV_sc hl hs.2 (bifT h).2⟩
  | .cast _ a, hs, h => E.inV_sc (e := a) hl hs h
  | .ite c a b, hs, h => ⟨E.inV_sc hl hs.1 (bifT h).1, E.inV_sc hl hs.2.1 (bifT (bifT h).2).1, E.inV_sc hl hs.2.2 (bifT (bifT h).2).2⟩
  | .tt _, _, _ => trivial
  | .bvar _, _, h => nomatch h
  | .cmp _ a b, hs, h => ⟨E.inV_sc hl hs.1 (bifT h).1, E.inV_sc hl hs.2 (bifT h).2⟩
  | .no a, hs, h => E.inV_sc (e := a) hl hs h
  | .ix _ _ _, _, h => nomatch h
/-- the variables of what a map holds -/
def entVs : List Ent → List Nat
  | [] => []
  | e :: r => (match e.val with | .one (.int _ x) => x.vs | _ => []) ++ entVs r
theorem entVs_d {C : Ctx} : ∀ {es : List Ent} {ms : List MapEntry}, All2 (Ent.rel C) es ms → ∀ i ∈ entVs es, C.vd i
  | [], _, _, i, h => nomatch h
  | e :: r, _, .cons h1 h2, i, h => by
    unfold entVs at h
    rcases List.mem_append.1 h with h | h
    · split at h
      · rename_i k x hx
        have h3 := h1.2.1
        rw [hx] at h3
        exact E.vs_d h3.1 i h
      · cases h
    · exact entVs_d h2 i h
/-- what a round has learned of these variables -/
def newK (l : List Nat) (base r : List (E × Bool)) : List (E × Bool) := (r.take (Nat.sub r.length base.length)).filter fun q => q.1.inV l
/-- all of them go on: then this, with what they have learned -/
def xdone (k : List (E × Bool) → XC) (f : St → List (E × Bool)) : List (E × Bool) → List XC → XC
  | acc, [] => k acc
  | acc, t :: ts => t.bind fun r => match r.1 with | .nrm => ksK (f r.2) fun n => (bif deadZ (swK n) (swK n) then .skip else ksK (n ++ acc) fun a => xdone k f a ts) | _ => .skip
theorem xdone_ok {Φ : Env → XE × St → Prop} {V : Env} {d : Nat → Prop} {k : List (E × Bool) → XC} {f : St → List (E × Bool)} : ∀ {ts : List XC} {acc : List (E × Bool)}, (xdone k f acc ts).holds Φ V → (∀ q ∈ acc, q.1.sc V d ∧ q.1.tr V = q.2) → (∀ t ∈ ts, t.det = true ∧ ∃ st', t.at V = some (.nrm, st') ∧ ∀ q ∈ f st', q.1.sc V d ∧ q.1.tr V = q.2) → ∃ acc', (∀ q ∈ acc', q.1.sc V d ∧ q.1.tr V = q.2) ∧ (k acc').holds Φ V
  | [], acc, h, ha, _ => ⟨acc, ha, h⟩
  | t :: ts, acc, h, ha, ht => by
    obtain ⟨h1, st', h2, h4⟩ := ht t List.mem_cons_self
    unfold xdone at h
    have h3 := T.det_bind h1 h h2
    simp only at h3
    rw [ksK_eq] at h3
    cases hdz : deadZ (swK (f st')) (swK (f st')) with
    | true => exact (deadZ_ok (d := d) (swK_ok fun q hq => (h4 q hq).2) (swK_sc h4) hdz).elim
    | false =>
    rw [hdz, cond_false, ksK_eq] at h3
    exact xdone_ok h3 (fun q hq => (List.mem_append.1 hq).elim (h4 q) (ha q)) fun t' ht' => ht t' (List.mem_cons_of_mem _ ht')
/-! ### the loop -/
/-- the head of a loop over a map -/
structure MH where
  bi : Nat
  m : Nat
  since : Nat
  ents : List Ent
def xhead (st : St) (o : Oper) : Option MH :=
  match o.op, o.guard with
  | .next it false, none => match xev [] st.get it with
    | some (.pv (.one (.ptr bi 0))) => match hget st.hp.H bi with
      | some (.mit m since none) => match hget st.hp.H m with
        | some (.mp ents clock) => if clock = since ∧ ents.all (fun e => decide (e.born < since) && ents.all fun e' => !(Nat.beq e.born e'.born) || decide (e = e')) = true ∧ m ≠ bi then some ⟨bi, m, since, ents⟩ else none
        | _ => none
      | _ => none
    | _ => none
  | _, _ => none
def MH.hp (h : MH) (hp : Hp) : Hp := { hp with H := hdel hp.H h.bi }
/-- one round, begun with an entry -/
def xround (P : Program) (tb : Tb) (cf : Cf) (ops : Array Oper) (o : Oper) (os : List Oper) (kr : St → XC) (st : St) (h : MH) (e : Ent) : XC :=
  (xlist P tb cf ops os (St.put ⟨st.sz, st.tmps, st.hp⟩ o.dst (.tup [.one (.bool (.tt true)), e.key, e.val]) { st.hp with H := [(h.bi, .mit h.m h.since (some e.born)), (h.m, .mp h.ents h.since)] })).bind kr
/-- is it as it was? -/
def xback (st : St) (h : MH) (st' : St) : Bool :=
  Nat.beq st'.sz st.sz && (List.range st.sz).all (fun n => isAny (st.get n) || svSame (st'.get n) (st.get n)) &&
    (match hget st'.hp.H h.m with | some (.mp es c) => listSame entSame es h.ents && Nat.beq c h.since | _ => false) && decide (st'.hp.gh.m = st.hp.gh.m)
def xgone (st : St) (h : MH) (r : XE × St) : XC :=
  match r.1 with
  | .nrm => if xback st h r.2 then .skip else .bad "range turned"
  | _ => .ret (r.1, ⟨r.2.sz, r.2.tmps, { r.2.hp with H := hdel (hdel st.hp.H h.bi) h.m }⟩)
def xmap (P : Program) (tb : Tb) (cf : Cf) (ops : Array Oper) (o : Oper) (os : List Oper) (kr : St → XC) (st : St) (h : MH) : XC :=
  let ts := h.ents.map fun e => xround P tb cf ops o os kr st h e
  if ts.all T.det then
    T.boths (xdone (fun acc => ksK (acc ++ st.hp.gh.k) fun kk => (xlist P tb cf ops os (st.put o.dst (.tup [.one (.bool (.tt false))]) { st.hp with gh := ⟨kk, st.hp.gh.d, st.hp.gh.m⟩ })).bind fun st' => (kr st').bind fun r => match r.1 with
      | .nrm => .bad "range end"
      | _ => .ret r) (fun st' => newK (entVs h.ents) st.hp.gh.k st'.hp.gh.k) [] ts :: ts.map fun t => t.bind (xgone st h))
  else .bad "range ways"
section
variable {P : Program} {X : Ext} {ft : Ft} {tb : Tb} {cf : Cf} {C : Ctx} {w : World} {st : St} {a : Act}
/-- the same blocks, told with less, or fewer -/
theorem HRel.weak {hp : Hp} {H' : Hs} {O' : Nat → Prop} (h : HRel C hp w) (hH : ∀ b blk, hget H' b = some blk → ∃ blk0, hget hp.H b = some blk0 ∧ ∀ c ob, blk0.rel C c ob → blk.rel C c ob)
    (hO : ∀ b blk g c, hget H' b = some blk → blk.it = false → C.bl b = some (g, c) → O' g) : HRel { C with O := O' } { hp with H := H' } w := by
  have hr : ∀ (b : Blk) c ob, b.rel C c ob → b.rel { C with O := O' } c ob := fun b c ob k => Blk.rel.le (C := C) (C' := { C with O := O' }) ⟨fun i hi => ⟨hi, rfl, rfl, rfl⟩, rfl, rfl, fun _ _ h => h⟩ k
  refine ⟨⟨fun b blk hb => ?_, fun b b' x x' g c c' hx hx' => ?_⟩, h.ext, (fun b blk g c hb hg => by obtain ⟨blk0, k1, _⟩ := hH b blk hb; exact h.apart b blk0 g c k1 hg), hO, h.free, h.blt⟩
  · obtain ⟨blk0, k1, k2⟩ := hH b blk hb
    obtain ⟨g, c, m1, m2⟩ := h.at_ b blk0 k1
    exact ⟨g, c, m1, hr _ _ _ (k2 _ _ m2)⟩
  · obtain ⟨y, hy, _⟩ := hH b x hx
    obtain ⟨y', hy', _⟩ := hH b' x' hx'
    exact h.inj b b' y y' g c c' hy hy'
theorem Ent.rel.fn {e : Ent} {m m' : MapEntry} (h : e.rel C m) (h' : e.rel C m') : m = m' := by
  cases m; cases m'
  obtain ⟨h1, h2, h3⟩ := h
  obtain ⟨h1', h2', h3'⟩ := h'
  simp only at h1 h2 h3 h1' h2' h3'
  rw [PV.rel.fn h1 h1', PV.rel.fn h2 h2', h3, h3']
theorem xhead_ok {o : Oper} {mh : MH} (h : xhead st o = some mh) : ∃ it clock, o.op = .next it false ∧ o.guard = none ∧ xev [] st.get it = some (.sc (.ptr mh.bi 0)) ∧ hget st.hp.H mh.bi = some (.mit mh.m mh.since none) ∧ hget st.hp.H mh.m = some (.mp mh.ents clock) ∧
    clock = mh.since ∧ (∀ e ∈ mh.ents, e.born < mh.since ∧ ∀ e' ∈ mh.ents, e.born = e'.born → e = e') ∧ mh.m ≠ mh.bi := by
  unfold xhead at h
  split at h
  · rename_i it h1 h2
    split at h
    · rename_i bi h3
      split at h
      · rename_i m since h4
        split at h
        · rename_i ents clock h5
          split at h
          · rename_i hc
            cases h
            refine ⟨it, clock, h1, h2, h3, h4, h5, hc.1, fun e he => ?_, hc.2.2⟩
            have := List.all_eq_true.1 hc.2.1 e he
            simp only [Bool.and_eq_true, decide_eq_true_eq, List.all_eq_true, Bool.or_eq_true, Bool.not_eq_true'] at this
            refine ⟨this.1, fun e' he' hb => ?_⟩
            rcases this.2 e' he' with k | k
            · rw [hb, Nat.beq_refl] at k; cases k
            · exact k
          · cases h
        · cases h
      · cases h
    · cases h
  · cases h
theorem hget_two {a b : Nat} {x y : Blk} {n : Nat} {z : Blk} (h : hget [(a, x), (b, y)] n = some z) : (n = a ∧ z = x) ∨ (n = b ∧ z = y) := by
  simp only [hget] at h
  split at h
  · rename_i e; cases h; exact .inl ⟨e.symm, rfl⟩
  · split at h
    · rename_i e; cases h; exact .inr ⟨e.symm, rfl⟩
    · cases h
theorem T.bind_holds_det {α : Type} {Φ : Env → XE × St → Prop} {V : Env} {t : T α} {k : α → XC} (hd : t.det = true) (h : (t.bind k).holds Φ V) : t.holds (fun V' r => V' = V ∧ t.at V = some r ∧ (k r).holds Φ V) V :=
  T.det_holds hd (T.holds_bind.1 h) fun r hr hk => ⟨rfl, hr, hk⟩
/-- what stands behind a round is as it was -/
theorem xback_ok {mh : MH} {st' : St} (h : xback st mh st' = true) : st'.sz = st.sz ∧ (∀ n, n < st.sz → st.get n = .any ∨ st'.get n = st.get n) ∧ hget st'.hp.H mh.m = some (.mp mh.ents mh.since) ∧ st'.hp.gh.m = st.hp.gh.m := by
  unfold xback at h
  simp only [Bool.and_eq_true, List.all_eq_true, List.mem_range, Bool.or_eq_true, decide_eq_true_eq] at h
  obtain ⟨⟨⟨h1, h2⟩, h3⟩, h4⟩ := h
  refine ⟨Nat.eq_of_beq_eq_true h1, fun n hn => (h2 n hn).imp isAny_ok svSame_ok, ?_, h4⟩
  split at h3
  · rename_i es c hb
    simp only [Bool.and_eq_true] at h3
    rw [hb, listSame_ok (fun _ _ => entSame_ok) h3.1, Nat.eq_of_beq_eq_true h3.2]
  · cases h3
theorem St.get_out {st : St} {n : Nat} (h : ¬ n < st.sz) : st.get n = SV.undef := by
  rw [St.get_eq]
  cases hb : Nat.blt n st.sz with
  | true => exact absurd (blt_true.1 hb) h
  | false => rfl
theorem ARel.back {C' : Ctx} {st' : St} {a' : Act} (h : ARel C st a) (hl : C.le C') (h' : ARel C' st' a') (h1 : st'.sz = st.sz) (h2 : ∀ n, n < st.sz → st.get n = .any ∨ st'.get n = st.get n) : ARel C st a' := by
  refine ⟨h1.symm.trans h'.sz, h.most, fun n => ?_, h'.defers⟩
  by_cases hn : n < st.sz
  · rcases h2 n hn with e | e
    · rw [e]; trivial
    · by_cases ea : st.get n = .any
      · rw [ea]; trivial
      · have k := h'.rel n
        rw [e] at k
        have := SV.rel.fn ea (SV.rel.le hl (h.rel n)) k
        rw [← this]
        exact h.rel n
  · have k := h'.rel n
    rw [St.get_out (by rw [h1]; exact hn)] at k
    rw [St.get_out hn]
    exact k
theorem xmap_ok (htb : TbOk P tb) (hcf : CfOk P X ft cf) {ops : Array Oper} {o : Oper} {os : List Oper} {id : Nat} {rest : Code} {kr : St → XC} {Q : Exit → Act → World → Prop} {Φ : Env → XE × St → Prop} (hops : ops.toList = o :: os) (hQ : ∀ c a w, ¬ Q (.panic c) a w)
    (hkr : ∀ {C : Ctx} {w : World} {st : St} {a : Act} {Q : Exit → Act → World → Prop} {Φ : Env → XE × St → Prop}, (∀ c a w, ¬ Q (.panic c) a w) → C.Is X ft → HRel C st.hp w → ARel C st a →
      (kr st).holds Φ C.V → (∀ C' r a' w', Kp C w C' w' → HRel C' r.2.hp w' → ARel C' r.2 a' → Φ C'.V r → Q r.1.real a' w') → rest.wp P Q a w)
    {mh : MH} (hC : C.Is X ft) (h : HRel C st.hp w) (ha : ARel C st a) (hm : xhead st o = some mh) (hx : (xmap P tb cf ops o os kr ⟨st.sz, st.tmps, mh.hp st.hp⟩ mh).holds Φ C.V)
    (hK : ∀ C' r a' w', Kp C w C' w' → HRel C' r.2.hp w' → ARel C' r.2 a' → Φ C'.V r → Q r.1.real a' w') : (Code.loop (.seq (.region id ops false) rest)).wp P Q a w := by
  obtain ⟨it, clock, o1, o2, o3, o4, o5, rfl, o7, o8⟩ := xhead_ok hm
  obtain ⟨g, c, b1, b2⟩ := h.at_ _ _ o4
  obtain ⟨gm, c0, seen0, b3, b4, b40, _⟩ := b2
  obtain rfl := b40 rfl
  obtain ⟨gm', cm, b5, es, b6, b7⟩ := h.at_ _ _ o5
  rw [b3] at b5; cases b5
  have hgm : gm ≠ g := fun e => o8 (h.inj _ _ _ _ g c0 c o5 o4 (e ▸ b3) b1)
  unfold xmap at hx
  simp only at hx
  split at hx
  · rename_i hdet
    have hdet : ∀ e ∈ mh.ents, (xround P tb cf ops o os kr ⟨st.sz, st.tmps, mh.hp st.hp⟩ mh e).det = true := fun e he => List.all_eq_true.1 hdet _ (List.mem_map.2 ⟨e, he, rfl⟩)
    have hdone := T.boths_mem hx _ List.mem_cons_self
    have hgone : ∀ e ∈ mh.ents, ((xround P tb cf ops o os kr ⟨st.sz, st.tmps, mh.hp st.hp⟩ mh e).bind (xgone ⟨st.sz, st.tmps, mh.hp st.hp⟩ mh)).holds Φ C.V := fun e he => T.boths_mem hx _ (List.mem_cons_of_mem _ (List.mem_map.2 ⟨_, List.mem_map.2 ⟨e, he, rfl⟩, rfl⟩))
    clear hx
    have hev : ∀ {C1 : Ctx} {a1 : Act}, C.le C1 → C1.bl = C.bl → ARel C1 ⟨st.sz, st.tmps, mh.hp st.hp⟩ a1 → a1.eval it = .pointer (some ⟨g, 0, none⟩) := fun {C1 a1} hl hb k => by
      obtain ⟨g1, c1, k1, k2⟩ := k.ev (ks := []) (fun q hq => nomatch hq) it _ (show xev [] (St.get ⟨st.sz, st.tmps, mh.hp st.hp⟩) it = some (.sc (.ptr mh.bi 0)) from o3)
      rw [hb, b1] at k1; cases k1
      exact k2
    have hbi : ∀ b blk, hget (mh.hp st.hp).H b = some blk → b ≠ mh.bi ∧ hget st.hp.H b = some blk := fun b blk hb => hget_del _ _ _ _ hb
    -- the rounds, one by one
    have key : ∀ (n : Nat) (O S : Nat → Prop) (seen : Array Nat) (a1 : Act) (w1 : World), O g → O gm → ¬ S g → ¬ S gm → HRel { C with O := O, S := S } (mh.hp st.hp) w1 → ARel { C with O := O, S := S } ⟨st.sz, st.tmps, mh.hp st.hp⟩ a1 →
        w1.heap[g]? = some (.mapIter (some gm) mh.since seen mh.since) → w1.heap[gm]? = some (.map es.toArray mh.since) → (leftOf es.toArray seen).size ≤ n →
        (∀ e ∈ mh.ents, seen.contains e.born = true → ∃ st', (xround P tb cf ops o os kr ⟨st.sz, st.tmps, mh.hp st.hp⟩ mh e).at C.V = some (.nrm, st') ∧ ∀ q ∈ newK (entVs mh.ents) st.hp.gh.k st'.hp.gh.k, q.1.sc C.V C.vd ∧ q.1.tr C.V = q.2) →
        Kp C w { C with O := O, S := S } w1 → Code.rounds P (.seq (.region id ops false) rest) Q (n + 1) a1 w1 := by
      intro n
      induction n using Nat.strongRecOn with
      | _ n ih =>
        intro O S seen a1 w1 hOg hOm hSg hSm h1 ha1 hg1 hgm1 hn hseen hk1
        have hC1 : Ctx.Is { C with O := O, S := S } X ft := hC
        rw [rounds_succ]
        refine wp_seq (wp_region_list ?_)
        rw [hops]
        refine wpList_step fun K hKK => ?_
        have hwant : Region.wanted o (yielded ops a1.tmps) = true := by unfold Region.wanted; rw [o2]
        rw [hwant, if_pos rfl]
        unfold Oper.wp
        have hrun : (execOp a1.eval o).run P w1 = ((Instr.next (.pointer (some ⟨g, 0, none⟩)) false o.type).run P w1).andThen fun v w => .ok (.value v) w := by
          unfold execOp
          rw [o1]
          simp only [hev (C1 := { C with O := O, S := S }) ⟨fun i hi => ⟨hi, rfl, rfl, rfl⟩, rfl, rfl, fun _ _ h => h⟩ rfl ha1, Sem.run_bind]
          cases (Instr.next (.pointer (some ⟨g, 0, none⟩)) false o.type).run P w1 <;> rfl
        have hQ' : ∀ c a w, ¬ Exit.then (Code.rounds P (.seq (.region id ops false) rest) Q n) Q (.panic c) a w := fun c a w hq => hQ c a w hq
        have hold : ∀ x ∈ es.toArray.toList, x.born < mh.since := fun x hx => by
          obtain ⟨k, hk⟩ := List.mem_iff_getElem?.1 hx
          obtain ⟨e, e1, e2⟩ := b6.getR k x (by simpa using hk)
          rw [e2.2.2]
          exact (o7 e (List.mem_of_getElem? e1)).1
        rcases run_next_at (P := P) w1 o.type g gm mh.since mh.since seen es.toArray mh.since hg1 hgm1 hold (Nat.le_refl _) with ⟨hz, hr⟩ | ⟨me, hme, w2, hw2, hr⟩
        · -- all have come
          rw [hrun, hr]
          refine hKK _ _ ?_
          obtain ⟨acc, hacc, hd⟩ := xdone_ok (d := C.vd) hdone (fun q hq => nomatch hq) (fun t ht => by
            obtain ⟨e, he, rfl⟩ := List.mem_map.1 ht
            refine ⟨hdet e he, hseen e he ?_⟩
            obtain ⟨k, hk⟩ := List.mem_iff_getElem?.1 he
            obtain ⟨m, m1, m2⟩ := b6.get k e hk
            have hl : leftOf es.toArray seen = #[] := Array.eq_empty_of_size_eq_zero hz
            cases hs : seen.contains e.born with
            | true => rfl
            | false =>
              have : m ∈ leftOf es.toArray seen := by
                unfold leftOf
                rw [Array.mem_filter]
                exact ⟨by simpa using List.mem_of_getElem? m1, by rw [m2.2.2, hs]; rfl⟩
              rw [hl] at this
              simp at this)
          rw [ksK_eq, T.holds_bind] at hd
          have h1' : HRel { C with O := O, S := S } { mh.hp st.hp with gh := ⟨acc ++ (mh.hp st.hp).gh.k, (mh.hp st.hp).gh.d, (mh.hp st.hp).gh.m⟩ } w1 :=
            ⟨h1.toHCore, ⟨h1.ext.rel, h1.ext.msc, fun q hq => (List.mem_append.1 hq).elim (hacc q) (h1.ext.facts q), h1.ext.defs⟩, h1.apart, h1.own, h1.free, h1.blt⟩
          refine xlist_ok htb hcf os (C := { C with O := O, S := S }) hC1 (by rw [St.put_hp]; exact h1') (ha1.put (sv := .tup [.one (.bool (.tt false))]) (v := .tuple #[.bool false]) ⟨[.bool false], .cons ⟨trivial, by simp [tr_tt]⟩ .nil, rfl⟩ o.dst _) hd fun C2 st2 a2 w2 k1 k2 k3 k4 => ?_
          rw [T.holds_bind] at k4
          refine hkr hQ' (hC1.le k1.le) k2 k3 k4 fun C3 r a3 w3 m1 m2 m3 m4 => ?_
          obtain ⟨x, st3⟩ := r
          cases x with
          | nrm => exact m4.elim
          | ext id => exact hK C3 (.ext id, st3) a3 w3 (hk1.trans (k1.trans m1)) m2 m3 m4
          | ret => exact hK C3 (.ret, st3) a3 w3 (hk1.trans (k1.trans m1)) m2 m3 m4
        · -- one of them comes
          rw [hrun, hr]
          refine hKK _ _ ?_
          obtain ⟨hme1, hme2⟩ := mem_left hme
          obtain ⟨k, hk⟩ := List.mem_iff_getElem?.1 hme1
          obtain ⟨e, e1, e2⟩ := b6.getR k me (by simpa using hk)
          have he : e ∈ mh.ents := List.mem_of_getElem? e1
          have hheap : w2.heap = w1.heap := by rcases hw2 with rfl | rfl <;> rfl
          have hk2 : Kp { C with O := O, S := S } w1 { C with O := O, S := S } w2 := by rcases hw2 with rfl | rfl <;> exact Kp.same rfl rfl rfl rfl
          obtain ⟨W, hW⟩ : ∃ W, W = Go.ChangeMaps.setBlock w2 g (.mapIter (some gm) mh.since (seen.push me.born) mh.since) := ⟨_, rfl⟩
          rw [← hW]
          have hgl : g < w1.heap.size := (Array.getElem?_eq_some_iff.1 hg1).1
          have Wg : W.heap[g]? = some (.mapIter (some gm) mh.since (seen.push me.born) mh.since) := by
            rw [hW]; simp only [Go.ChangeMaps.setBlock]; rw [Array.getElem?_setIfInBounds_self_of_lt (by rw [hheap]; exact hgl)]
          have Wo : ∀ k, k ≠ g → W.heap[k]? = w1.heap[k]? := fun k hk => by
            rw [hW]; simp only [Go.ChangeMaps.setBlock]; rw [Array.getElem?_setIfInBounds_ne (Ne.symm hk), hheap]
          have Ws : W.heap.size = w1.heap.size := by rw [hW]; simp only [Go.ChangeMaps.setBlock, Array.size_setIfInBounds]; rw [hheap]
          have le2 : ∀ O2 : Nat → Prop, C.le { C with O := O2, S := S } := fun O2 => ⟨fun i hi => ⟨hi, rfl, rfl, rfl⟩, rfl, rfl, fun _ _ h => h⟩
          have h2 : HRel { C with O := fun k => k = gm, S := S } { st.hp with H := [(mh.bi, .mit mh.m mh.since (some e.born)), (mh.m, .mp mh.ents mh.since)] } W := by
            refine ⟨⟨fun b blk hb => ?_, fun b b' x x' g1 c1 c2 hx hx' hg1' hg2' => ?_⟩, h1.ext.keep (by omega) (fun k hk => Wo k fun e => hSg (e ▸ hk)), fun b blk g1 c1 hb hg => (hget_two hb).elim (fun q => by obtain ⟨rfl, rfl⟩ := q; simp only at hg; rw [b1] at hg; cases hg; exact hSg) (fun q => by obtain ⟨rfl, rfl⟩ := q; simp only at hg; rw [b3] at hg; cases hg; exact hSm), fun b blk g1 c1 hb hit hg => ?_, h1.free, fun b g1 c1 hb => by rw [Ws]; exact h1.blt b g1 c1 hb⟩
            · rcases hget_two hb with ⟨rfl, rfl⟩ | ⟨rfl, rfl⟩
              · exact ⟨g, c, b1, gm, c0, seen.push me.born, b3, Wg, (fun e => by cases e), fun b' e' => by cases e'; exact ⟨seen, by rw [e2.2.2]⟩⟩
              · exact ⟨gm, c0, b3, es, b6.mono fun _ _ k => Ent.rel.le (le2 _) k, by rw [Wo gm hgm]; exact hgm1⟩
            · rcases hget_two hx with ⟨rfl, rfl⟩ | ⟨rfl, rfl⟩ <;> rcases hget_two hx' with ⟨rfl, rfl⟩ | ⟨rfl, rfl⟩
              · rfl
              · simp only at hg1' hg2'; rw [b1] at hg1'; rw [b3] at hg2'; cases hg1'; cases hg2'; exact absurd rfl hgm
              · simp only at hg1' hg2'; rw [b3] at hg1'; rw [b1] at hg2'; cases hg1'; cases hg2'; exact absurd rfl hgm
              · rfl
            · rcases hget_two hb with ⟨rfl, rfl⟩ | ⟨rfl, rfl⟩
              · cases hit
              · simp only at hg; rw [b3] at hg; cases hg; rfl
          have hC2 : Ctx.Is { C with O := fun k => k = gm, S := S } X ft := hC
          have ha2 : ARel { C with O := fun k => k = gm, S := S } (St.put ⟨st.sz, st.tmps, mh.hp st.hp⟩ o.dst (.tup [.one (.bool (.tt true)), e.key, e.val]) { st.hp with H := [(mh.bi, .mit mh.m mh.since (some e.born)), (mh.m, .mp mh.ents mh.since)] }) (a1.put o.dst (.tuple #[.bool true, me.key, me.val])) := by
            refine ARel.put (C := { C with O := fun k => k = gm, S := S }) (ARel.le (C := { C with O := O, S := S }) ha1 ⟨fun i hi => ⟨hi, rfl, rfl, rfl⟩, rfl, rfl, fun _ _ h => h⟩) ?_ _ _
            exact ⟨[.bool true, me.key, me.val], .cons ⟨trivial, by simp [tr_tt]⟩ (.cons (PV.rel.le (le2 _) e2.1) (.cons (PV.rel.le (le2 _) e2.2.1) .nil)), rfl⟩
          have hx2 := T.bind_holds_det (hdet e he) (hgone e he)
          have hat : ∃ t, t = xround P tb cf ops o os kr ⟨st.sz, st.tmps, mh.hp st.hp⟩ mh e := ⟨_, rfl⟩
          obtain ⟨te, hte⟩ := hat
          rw [← hte] at hx2
          have hx3 : te.holds (fun V' r => V' = C.V ∧ te.at C.V = some r ∧ (xgone ⟨st.sz, st.tmps, mh.hp st.hp⟩ mh r).holds Φ C.V) C.V := hx2
          have hx4 : (xround P tb cf ops o os kr ⟨st.sz, st.tmps, mh.hp st.hp⟩ mh e).holds (fun V' r => V' = C.V ∧ te.at C.V = some r ∧ (xgone ⟨st.sz, st.tmps, mh.hp st.hp⟩ mh r).holds Φ C.V) C.V := hte ▸ hx3
          unfold xround at hx4
          rw [T.holds_bind] at hx4
          refine xlist_ok htb hcf os (C := { C with O := fun k => k = gm, S := S }) hC2 (by rw [St.put_hp]; exact h2) ha2 hx4 fun C3 st3 a3 w3 k1 k2 k3 k4 => ?_
          refine hkr hQ' (hC2.le k1.le) k2 k3 k4 fun C4 r a4 w4 m1 m2 m3 m4 => ?_
          have kk := k1.trans m1
          obtain ⟨mV, mat, mx⟩ := m4
          have hCle : C.le C4 := (le2 _).trans kk.le
          have hS4 : ∀ k, k < w1.heap.size → ¬ S k → ¬ C4.S k := fun k hk hs h => (kk.newS k h).elim hs (fun h => by rw [Ws] at h; omega)
          have hS5 : ∀ b blk g1 c1, hget (mh.hp st.hp).H b = some blk → C.bl b = some (g1, c1) → ¬ C4.S g1 := fun b blk g1 c1 hb hg => hS4 g1 (h1.blt b g1 c1 hg) (h1.apart b blk g1 c1 hb hg)
          have keepO : ∀ k, k < w1.heap.size → k ≠ g → k ≠ gm → ¬ S k → w4.heap[k]? = w1.heap[k]? := fun k hk h1 h2 h3 => (kk.keep k (by rw [Ws]; exact hk) h2 h3).trans (Wo k h1)
          have Wg4 : w4.heap[g]? = some (.mapIter (some gm) mh.since (seen.push me.born) mh.since) := (kk.keep g (by rw [Ws]; exact hgl) (fun e => hgm e.symm) hSg).trans Wg
          have hother : ∀ b blk, hget (mh.hp st.hp).H b = some blk → b ≠ mh.m → ∃ g1 c1, C.bl b = some (g1, c1) ∧ blk.rel { C with O := O, S := S } c1 w4.heap[g1]? := fun b blk hb hbm => by
            obtain ⟨g1, c1, q1, q2⟩ := h1.at_ b blk hb
            obtain ⟨r1, r2⟩ := hbi b blk hb
            refine ⟨g1, c1, q1, ?_⟩
            rw [keepO g1 q2.lt (fun e => r1 (h.inj _ _ _ _ g c1 c r2 o4 (e ▸ q1) b1)) (fun e => hbm (h.inj _ _ _ _ gm c1 c0 r2 o5 (e ▸ q1) b3)) (h1.apart b blk g1 c1 hb q1)]
            exact q2
          have hwt : W.tape = w1.tape ∧ W.os = w1.os ∧ W.output = w1.output := by rw [hW]; rcases hw2 with rfl | rfl <;> exact ⟨rfl, rfl, rfl⟩
          have kp : ∀ CC : Ctx, Ctx.le { C with O := O, S := S } CC → CC.S = C4.S → (∀ k, CC.O k → O k ∨ C4.O k) → (∀ b x, CC.bl b = some x → C4.bl b = some x) → Kp { C with O := O, S := S } w1 CC w4 := fun CC hle hS hO hbl => by
            refine ⟨hle, by rw [← Ws]; exact kk.size, kk.tape.trans hwt.1, kk.os.trans hwt.2.1, kk.output.trans hwt.2.2, fun k hk h1 h2 => ?_, fun k hk => ?_, fun k hk => ?_, fun b g1 c1 hb => ?_⟩
            · exact keepO k hk (fun e => h1 (e ▸ hOg)) (fun e => h1 (e ▸ hOm)) h2
            · rw [hS] at hk; rw [← Ws]; exact kk.newS k hk
            · rcases hO k hk with h | h
              · exact .inl h
              · rcases kk.new k h with h | h
                · exact .inl (by rw [show k = gm from h]; exact hOm)
                · exact .inr (by rw [← Ws]; exact h)
            · rcases kk.newbl b g1 c1 (hbl _ _ hb) with h | h
              · exact .inl h
              · exact .inr (by rw [← Ws]; exact h)
          have fin : ∀ (x : XE) (st4 : St), x ≠ .nrm → HRel C4 st4.hp w4 → ARel C4 st4 a4 → (xgone ⟨st.sz, st.tmps, mh.hp st.hp⟩ mh (x, st4)).holds Φ C.V → Q x.real a4 w4 := fun x st4 hx m2 m3 mx => by
            have mx' : Φ C.V (x, ⟨st4.sz, st4.tmps, { st4.hp with H := hdel (hdel (mh.hp st.hp).H mh.bi) mh.m }⟩) := by
              unfold xgone at mx
              cases x with
              | nrm => exact absurd rfl hx
              | ext id => exact mx
              | ret => exact mx
            refine hK { C4 with O := fun k => O k ∨ C4.O k } (x, ⟨st4.sz, st4.tmps, { st4.hp with H := hdel (hdel (mh.hp st.hp).H mh.bi) mh.m }⟩) a4 w4 (hk1.trans (kp _ ⟨kk.le.v, kk.le.f, kk.le.X, kk.le.bl⟩ rfl (fun k hk => hk) (fun _ _ h => h))) ?_ (ARel.hp (ARel.le (C := C4) (C' := { C4 with O := fun k => O k ∨ C4.O k }) m3 ⟨fun i hi => ⟨hi, rfl, rfl, rfl⟩, rfl, rfl, fun _ _ h => h⟩) _) (by rw [← mV] at mx'; exact mx')
            have hd : ∀ b blk, hget (hdel (hdel (mh.hp st.hp).H mh.bi) mh.m) b = some blk → b ≠ mh.m ∧ hget (mh.hp st.hp).H b = some blk := fun b blk hb => by
              obtain ⟨q1, q2⟩ := hget_del _ _ _ _ hb
              exact ⟨q1, (hget_del _ _ _ _ q2).2⟩
            refine ⟨⟨fun b blk hb => ?_, fun b b' y y' g1 c1 c2 hy hy' hg1' hg2' => ?_⟩, m2.ext, fun b blk g1 c1 hb hg => ?_, fun b blk g1 c1 hb hit hg => ?_, m2.free, m2.blt⟩
            · obtain ⟨q1, q2⟩ := hd b blk hb
              obtain ⟨g1, c1, r1, r2⟩ := hother b blk q2 q1
              exact ⟨g1, c1, hCle.bl _ _ r1, Blk.rel.le (C := { C with O := O, S := S }) (C' := { C4 with O := fun k => O k ∨ C4.O k }) ⟨kk.le.v, kk.le.f, kk.le.X, kk.le.bl⟩ r2⟩
            · obtain ⟨q1, q2⟩ := hd b y hy
              obtain ⟨q1', q2'⟩ := hd b' y' hy'
              obtain ⟨x1, x2, r1, _⟩ := hother b y q2 q1
              obtain ⟨x1', x2', r1', _⟩ := hother b' y' q2' q1'
              have e1 := hCle.bl _ _ r1
              have e1' := hCle.bl _ _ r1'
              simp only at hg1' hg2'
              rw [hg1'] at e1; rw [hg2'] at e1'
              cases e1; cases e1'
              exact h1.inj b b' y y' g1 c1 c2 q2 q2' r1 r1'
            · obtain ⟨q1, q2⟩ := hd b blk hb
              obtain ⟨x1, x2, r1, _⟩ := hother b blk q2 q1
              have e1 := hCle.bl _ _ r1
              simp only at hg
              rw [hg] at e1; cases e1
              exact hS5 b blk g1 c1 q2 r1
            · obtain ⟨q1, q2⟩ := hd b blk hb
              obtain ⟨x1, x2, r1, _⟩ := hother b blk q2 q1
              have e1 := hCle.bl _ _ r1
              simp only at hg
              rw [hg] at e1; cases e1
              exact .inl (h1.own b blk g1 c1 q2 hit r1)
          obtain ⟨x, st4⟩ := r
          cases x with
          | nrm =>
            unfold xgone at mx
            simp only at mx
            split at mx
            · rename_i hb
              obtain ⟨q1, q2, q4, q5⟩ := xback_ok hb
              show Code.rounds P (.seq (.region id ops false) rest) Q n a4 w4
              have hsz := left_shrinks es.toArray seen me hme
              obtain ⟨n', rfl⟩ : ∃ n', n = n' + 1 := ⟨n - 1, by omega⟩
              have hm4 : w4.heap[gm]? = some (.map es.toArray mh.since) := by
                obtain ⟨g5, c5, r1, es', r2, r3⟩ := m2.at_ _ _ q4
                rw [hCle.bl _ _ b3] at r1; cases r1
                have : es = es' := All2.fn (R := Ent.rel C4) (fun _ _ _ => Ent.rel.fn) (b6.mono fun _ _ k => Ent.rel.le hCle k) r2
                rw [r3, this]
              refine ih n' (by omega) (fun k => O k ∨ C4.O k) C4.S (seen.push me.born) a4 w4 (.inl hOg) (.inl hOm) (hS4 g hgl hSg) (hS4 gm (Array.getElem?_eq_some_iff.1 hgm1).1 hSm) ?_ ?_ Wg4 hm4 (by omega) (fun e' he' hs => ?_) (hk1.trans (kp _ ⟨fun i hi => ⟨hi, rfl, rfl, rfl⟩, rfl, rfl, fun _ _ h => h⟩ rfl (fun k hk => hk) (fun b x h => hCle.bl b x h)))
              · refine ⟨⟨fun b blk hb => ?_, h1.inj⟩, ?_, fun b blk g1 c1 hb hg => hS5 b blk g1 c1 hb hg, fun b blk g1 c1 hb hit hg => .inl (h1.own b blk g1 c1 hb hit hg), h1.free, fun b g1 c1 hb => m2.blt b g1 c1 (hCle.bl _ _ hb)⟩
                · by_cases hbm : b = mh.m
                  · subst hbm
                    have := (hbi _ _ hb).2
                    rw [o5] at this; cases this
                    exact ⟨gm, c0, b3, es, b6.mono fun _ _ k => Ent.rel.le (C := C) (C' := { C with O := fun k => O k ∨ C4.O k, S := C4.S }) ⟨fun i hi => ⟨hi, rfl, rfl, rfl⟩, rfl, rfl, fun _ _ h => h⟩ k, hm4⟩
                  · obtain ⟨g1, c1, r1, r2⟩ := hother b blk hb hbm
                    exact ⟨g1, c1, r1, Blk.rel.le (C := { C with O := O, S := S }) (C' := { C with O := fun k => O k ∨ C4.O k, S := C4.S }) ⟨fun i hi => ⟨hi, rfl, rfl, rfl⟩, rfl, rfl, fun _ _ h => h⟩ r2⟩
                · have := m2.ext.rel
                  rw [mV, hCle.X] at this
                  have q5' : st4.hp.gh.m = (mh.hp st.hp).gh.m := q5
                  simp only at this
                  rw [q5'] at this
                  exact ⟨C.X.back _ _ _ _ _ _ _ hCle.bl this h1.ext.rel, h1.ext.msc, h1.ext.facts, h1.ext.defs⟩
              · exact ARel.back (C := { C with O := fun k => O k ∨ C4.O k, S := C4.S }) (st := ⟨st.sz, st.tmps, mh.hp st.hp⟩) (ARel.le (C := { C with O := O, S := S }) ha1 ⟨fun i hi => ⟨hi, rfl, rfl, rfl⟩, rfl, rfl, fun _ _ h => h⟩) (C' := C4) ⟨hCle.v, hCle.f, hCle.X, hCle.bl⟩ m3 q1 q2
              · by_cases hs' : seen.contains e'.born = true
                · exact hseen e' he' hs'
                · have hb' : e'.born = me.born := by
                    simp only [Array.contains_push, Bool.or_eq_true, beq_iff_eq] at hs
                    rcases hs with hs | hs
                    · exact absurd hs hs'
                    · first | exact hs | exact hs.symm
                  have : e' = e := (o7 e' he').2 e he (hb'.trans e2.2.2)
                  rw [this, ← hte]
                  refine ⟨st4, mat, fun q hq => ?_⟩
                  obtain ⟨f1, f2⟩ := List.mem_filter.1 hq
                  obtain ⟨f3, f4⟩ := m2.ext.facts q (List.mem_of_mem_take f1)
                  rw [mV] at f3 f4
                  exact ⟨E.inV_sc (entVs_d b6) f3 f2, f4⟩
            · exact mx.elim
          | ext id => exact fin (.ext id) st4 (by intro e; cases e) m2 m3 mx
          | ret => exact fin .ret st4 (by intro e; cases e) m2 m3 mx
    have hOg : C.O g := h.own _ _ g c o4 rfl b1
    have hOm : C.O gm := h.own _ _ gm c0 o5 rfl b3
    refine wp_loop_rounds _ (key (leftOf es.toArray #[]).size C.O C.S #[] a w hOg hOm (h.apart _ _ g c o4 b1) (h.apart _ _ gm c0 o5 b3) (h.del mh.bi) (ha.hp _) b4 b7 (Nat.le_refl _) (fun e he hs => by simp at hs) (.refl C w))
  · exact hx.elim
end
end
end Go.Proofs.YtkogjjeoihnjpaaGreat.Sx
end
section
set_option linter.unusedVariables false
set_option linter.unusedSimpArgs false
namespace Go.Proofs.YtkogjjeoihnjpaaGreat.Sx
open Go
noncomputable section
/-! ### statements -/
def xiter (body : St → XC) : Nat → St → XC
  | 0, _ => .bad "loop rounds"
  | n + 1, st => (body st).bind fun r => match r.1 with
    | .nrm => xiter body n r.2
    | _ => .ret r
def xregionD (P : Program) (tb : Tb) (cf : Cf) (ops : Array Oper) (st : St) : T St :=
  if Region.noSelect ops then
    bif xlinear .any ops ops.size 0 then xanyG P tb cf ops none ops.size 0 [] st else
    let s := (st.hp.lim - st.hp.nx) / (ops.size + 1)
    if ops.size * s ≤ st.hp.lim - st.hp.nx then
      (xanyG P tb cf ops (some (st.hp.nx, s)) ops.size 0 [] ⟨st.sz, st.tmps, st.hp.split ops.size s⟩).flat.bind fun st' =>
        if st.hp.rest.all (fun r => st'.hp.rest.contains r) then .ret ⟨st'.sz, st'.tmps, { st'.hp with rest := st.hp.rest }⟩ else .bad "numbers"
    else .bad "numbers"
  else .bad "select"
def xregion (P : Program) (tb : Tb) (cf : Cf) (ops : Array Oper) (st : St) : T St := xregionD P tb cf ops st
def Code.dsts : Code → List Nat
  | .region _ ops _ => ops.toList.filterMap (·.dst)
  | .seq a b => Code.dsts a ++ Code.dsts b
  | .cond _ a b => Code.dsts a ++ Code.dsts b
  | .block _ a => Code.dsts a
  | .loop a => Code.dsts a
  | .scope a => Code.dsts a
  | .rangeFunc _ _ a b => Code.dsts a ++ Code.dsts b
  | _ => []
def xloop (P : Program) (tb : Tb) (cf : Cf) (lf : Nat) (full tail : St → XC) (body : Code) (st : St) : XC :=
  match body with
  | .seq (.region id ops false) rest => match ops.toList with
    | o :: os => match xhead st o with
      | some _ => match xhead (st.blur (Code.dsts (.seq (.region id ops false) rest))) o with
        | some mh => xmap P tb cf ops o os tail ⟨(st.blur (Code.dsts (.seq (.region id ops false) rest))).sz, (st.blur (Code.dsts (.seq (.region id ops false) rest))).tmps, mh.hp (st.blur (Code.dsts (.seq (.region id ops false) rest))).hp⟩ mh
        | none => .bad "range head"
      | none => xiter full lf st
    | [] => xiter full lf st
  | _ => xiter full lf st
def xcode (P : Program) (tb : Tb) (cf : Cf) (lf : Nat) : Code → St → XC
  | .skip, st => .ret (.nrm, st)
  | .label _, st => .ret (.nrm, st)
  | .region _ ops draw, st =>
    if draw then (xregion P tb cf ops st).bind fun st' => .ret (.nrm, st')
    else (xlist P tb cf ops ops.toList st).bind fun st' => .ret (.nrm, st')
  | .seq a b, st => (xcode P tb cf lf a st).bind fun r => match r.1 with
    | .nrm => xcode P tb cf lf b r.2
    | _ => .ret r
  | .cond c a b, st => match xev st.hp.gh.k st.get c with
    | some (.pv (.one (.bool e))) => xif e st.hp (fun hp => xcode P tb cf lf a ⟨st.sz, st.tmps, hp⟩) (fun hp => xcode P tb cf lf b ⟨st.sz, st.tmps, hp⟩)
    | _ => .bad "cond"
  | .block id body, st => (xcode P tb cf lf body st).bind fun r => .ret (if r.1 = .ext id then .nrm else r.1, r.2)
  | .loop body, st => xloop P tb cf lf (xcode P tb cf lf body) (match body with | .seq _ rest => xcode P tb cf lf rest | _ => fun _ => .bad "loop") body st
  | .exit id, st => .ret (.ext id, st)
  | .ret, st => .ret (.ret, st)
  | .scope c, st => xcode P tb cf lf c st
  | .rangeFunc .., _ => .bad "rangeFunc"
  | .goto _, _ => .bad "goto"
  | .refuse _, _ => .bad "refuse"
section
variable {P : Program} {X : Ext} {ft : Ft} {tb : Tb} {cf : Cf}
theorem xregionD_ok (htb : TbOk P tb) (hcf : CfOk P X ft cf) (hm : P.follows .mixedOrders = true) {C : Ctx} {w : World} {st : St} {a : Act} {ops : Array Oper} {id : Nat} {Q : Exit → Act → World → Prop} (hQ : ∀ c a w, ¬ Q (.panic c) a w) {Φ : Env → St → Prop} (hC : C.Is X ft) (h : HRel C st.hp w) (ha : ARel C st a)
    (hx : (xregionD P tb cf ops st).holds Φ C.V) (hK : ∀ C' st' a' w', Kp C w C' w' → HRel C' st'.hp w' → ARel C' st' a' → Φ C'.V st' → Q .normal a' w') : (Code.region id ops true).wp P Q a w := by
  unfold xregionD at hx
  have kd : Kp C w C { w with drawn := w.drawn + 1 } := Kp.same rfl rfl rfl rfl
  have hcl : Closed .any ops (markA ops.size 0) := fun j oj _ hl => by
    rw [markA_zero] at hl
    rcases Nat.lt_or_ge j ops.size with h' | h'
    · simp [h'] at hl
    · simp [Array.getElem?_eq_none, h'] at hl
  split at hx
  · rename_i hns
    refine wp_region_any hm ?_
    rw [← markA_zero]
    refine wpAny_of_G (L := []) _ _ _ _ ?_
    cases hb : xlinear .any ops ops.size 0 with
    | true =>
      rw [hb, cond_true] at hx
      exact xanyG_ok (C0 := C) (w0 := { w with drawn := w.drawn + 1 }) htb hcf hns hQ (fun C' st' a' w' k1 k2 k3 k4 => hK C' st' a' w' (kd.trans k1) k2 k3 k4) ops.size hC (.refl _ _) (h.same rfl) ha (fun q hq => nomatch hq) hcl (D := []) (fun q hq => nomatch hq) Dn.nil (cnt_le_n _ _) hx
    | false =>
      rw [hb, cond_false] at hx
      simp only at hx
      split at hx
      · rename_i hs
        rw [T.holds_bind] at hx
        have hx := T.flat_holds hx
        have hd : HRel C (st.hp.split ops.size ((st.hp.lim - st.hp.nx) / (ops.size + 1))) { w with drawn := w.drawn + 1 } := (h.split _ _ hs).same rfl
        refine xanyG_ok (C0 := C) (w0 := { w with drawn := w.drawn + 1 }) htb hcf hns hQ (fun C' st' a' w' k1 k2 k3 k4 => ?_) ops.size (st := ⟨st.sz, st.tmps, st.hp.split ops.size ((st.hp.lim - st.hp.nx) / (ops.size + 1))⟩) hC (.refl _ _) hd (ha.hp _) (fun q hq => nomatch hq) hcl (D := []) (fun q hq => nomatch hq) Dn.nil (cnt_le_n _ _) hx
        split at k4
        · rename_i hr
          refine hK C' ⟨st'.sz, st'.tmps, { st'.hp with rest := st.hp.rest }⟩ a' w' (kd.trans k1) (k2.sub rfl fun b hb => ?_) (k3.hp _) k4
          rcases hb with hb | ⟨q, hq, h1, h2⟩
          · exact .inl hb
          · simp only at hq
            have := List.all_eq_true.1 hr q hq
            exact .inr ⟨q, by simpa using this, h1, h2⟩
        · exact k4.elim
      · exact hx.elim
  · exact hx.elim
theorem xregion_ok (htb : TbOk P tb) (hcf : CfOk P X ft cf) (hm : P.follows .mixedOrders = true) {C : Ctx} {w : World} {st : St} {a : Act} {ops : Array Oper} {id : Nat} {Q : Exit → Act → World → Prop} (hQ : ∀ c a w, ¬ Q (.panic c) a w) {Φ : Env → St → Prop} (hC : C.Is X ft) (h : HRel C st.hp w) (ha : ARel C st a)
    (hx : (xregion P tb cf ops st).holds Φ C.V) (hK : ∀ C' st' a' w', Kp C w C' w' → HRel C' st'.hp w' → ARel C' st' a' → Φ C'.V st' → Q .normal a' w') : (Code.region id ops true).wp P Q a w :=
  xregionD_ok htb hcf hm hQ hC h ha hx hK
def Good (P : Program) (X : Ext) (ft : Ft) (tb : Tb) (cf : Cf) (lf : Nat) (c : Code) : Prop :=
  ∀ {C : Ctx} {w : World} {st : St} {a : Act} {Q : Exit → Act → World → Prop} {Φ : Env → XE × St → Prop}, (∀ c a w, ¬ Q (.panic c) a w) → C.Is X ft → HRel C st.hp w → ARel C st a →
    (xcode P tb cf lf c st).holds Φ C.V → (∀ C' r a' w', Kp C w C' w' → HRel C' r.2.hp w' → ARel C' r.2 a' → Φ C'.V r → Q r.1.real a' w') → c.wp P Q a w
theorem xcode_both (htb : TbOk P tb) (hcf : CfOk P X ft cf) (hm : P.follows .mixedOrders = true) {lf : Nat} : ∀ (c : Code), Good P X ft tb cf lf c ∧ ∀ r rest, c = .seq r rest → Good P X ft tb cf lf rest := by
  intro c
  induction c with
  | skip =>
    refine ⟨?_, fun r rest e => by cases e⟩
    intro C w st a Q Φ hQ hC h ha hx hK; exact wp_skip (hK C _ a w (.refl C w) h ha hx)
  | label l =>
    refine ⟨?_, fun r rest e => by cases e⟩
    intro C w st a Q Φ hQ hC h ha hx hK; exact wp_label (hK C _ a w (.refl C w) h ha hx)
  | region id ops draw =>
    refine ⟨?_, fun r rest e => by cases e⟩
    intro C w st a Q Φ hQ hC h ha hx hK
    unfold xcode at hx
    split at hx
    · rename_i hd
      subst hd
      rw [T.holds_bind] at hx
      exact xregion_ok htb hcf hm hQ hC h ha hx fun C' st' a' w' k1 k2 k3 k4 => hK C' (.nrm, st') a' w' k1 k2 k3 k4
    · rename_i hd
      have hd : draw = false := by simpa using hd
      subst hd
      rw [T.holds_bind] at hx
      exact wp_region_list (xlist_ok htb hcf ops.toList hC h ha hx fun C' st' a' w' k1 k2 k3 k4 => hK C' (.nrm, st') a' w' k1 k2 k3 k4)
  | seq x y ihx ihy =>
    obtain ⟨ihx, ihx2⟩ := ihx
    obtain ⟨ihy, ihy2⟩ := ihy
    refine ⟨?_, fun r rest e => by cases e; exact ihy⟩
    intro C w st a Q Φ hQ hC h ha hx hK
    unfold xcode at hx
    rw [T.holds_bind] at hx
    refine wp_seq (ihx (Q := Exit.then (y.wp P Q) Q) (fun c a w hq => hQ c a w hq) hC h ha hx fun C' r a' w' k1 k2 k3 k4 => ?_)
    obtain ⟨e, st'⟩ := r
    cases e with
    | nrm => exact ihy hQ (hC.le k1.le) k2 k3 k4 fun C2 r2 a2 w2 m1 m2 m3 m4 => hK C2 r2 a2 w2 (k1.trans m1) m2 m3 m4
    | ext id => exact hK C' (.ext id, st') a' w' k1 k2 k3 k4
    | ret => exact hK C' (.ret, st') a' w' k1 k2 k3 k4
  | cond c x y ihx ihy =>
    obtain ⟨ihx, ihx2⟩ := ihx
    obtain ⟨ihy, ihy2⟩ := ihy
    refine ⟨?_, fun r rest e => by cases e⟩
    intro C w st a Q Φ hQ hC h ha hx hK
    unfold xcode at hx
    split at hx
    · rename_i e he
      obtain ⟨s, hv⟩ := ha.ev h.ks _ _ he
      obtain ⟨hpf, hf, _, _, _, _, _, _, hh⟩ := xif_holds h s hx
      refine wp_cond (t := e.tr C.V) hv ?_
      cases hb : e.tr C.V with
      | true => rw [if_pos rfl]; exact ihx (st := ⟨st.sz, st.tmps, hpf⟩) hQ hC hf (ha.hp _) (hh.1 hb) hK
      | false => rw [if_neg (by decide)]; exact ihy (st := ⟨st.sz, st.tmps, hpf⟩) hQ hC hf (ha.hp _) (hh.2 hb) hK
    · exact hx.elim
  | block id body ih =>
    obtain ⟨ih, ih2⟩ := ih
    refine ⟨?_, fun r rest e => by cases e⟩
    intro C w st a Q Φ hQ hC h ha hx hK
    unfold xcode at hx
    rw [T.holds_bind] at hx
    refine wp_block (ih (Q := Exit.inBlock id Q) (fun c a w hq => hQ c a w hq) hC h ha hx fun C' r a' w' k1 k2 k3 k4 => ?_)
    obtain ⟨e, st'⟩ := r
    have := hK C' (if e = .ext id then .nrm else e, st') a' w' k1 k2 k3 k4
    cases e with
    | nrm => simpa [XE.real, Exit.inBlock] using this
    | ext id' =>
      by_cases hid : id' = id
      · subst hid; simpa [XE.real, Exit.inBlock] using this
      · simpa [XE.real, Exit.inBlock, hid] using this
    | ret => simpa [XE.real, Exit.inBlock] using this
  | loop body ih =>
    obtain ⟨ih, ih2⟩ := ih
    refine ⟨?_, fun r rest e => by cases e⟩
    intro C w st a Q Φ hQ hC h ha hx hK
    have plain : (xiter (xcode P tb cf lf body) lf st).holds Φ C.V → (Code.loop body).wp P Q a w := fun hx => by
     refine wp_loop_rounds lf ?_
     have key : ∀ (n : Nat) {C : Ctx} {w : World} {st : St} {a : Act}, C.Is X ft → HRel C st.hp w → ARel C st a → (xiter (xcode P tb cf lf body) n st).holds Φ C.V →
         (∀ C' r a' w', Kp C w C' w' → HRel C' r.2.hp w' → ARel C' r.2 a' → Φ C'.V r → Q r.1.real a' w') → Code.rounds P body Q n a w := by
       intro n
       induction n with
       | zero => intro C w st a hC h ha hx hK; exact hx.elim
       | succ n ihn =>
         intro C w st a hC h ha hx hK
         unfold xiter at hx
         rw [T.holds_bind] at hx
         rw [rounds_succ]
         refine ih (Q := Exit.then (Code.rounds P body Q n) Q) (fun c a w hq => hQ c a w hq) hC h ha hx fun C' r a' w' k1 k2 k3 k4 => ?_
         obtain ⟨e, st'⟩ := r
         cases e with
         | nrm => exact ihn (hC.le k1.le) k2 k3 k4 fun C2 r2 a2 w2 m1 m2 m3 m4 => hK C2 r2 a2 w2 (k1.trans m1) m2 m3 m4
         | ext id => exact hK C' (.ext id, st') a' w' k1 k2 k3 k4
         | ret => exact hK C' (.ret, st') a' w' k1 k2 k3 k4
     exact key lf hC h ha hx hK
    unfold xcode xloop at hx
    split at hx
    · rename_i id ops rest
      split at hx
      · rename_i o os hops
        split at hx
        · split at hx
          · rename_i mh hmh
            exact xmap_ok htb hcf hops hQ (ih2 _ _ rfl) hC (by rw [St.blur_hp]; exact h) (ha.blur _) hmh hx hK
          · exact hx.elim
        · exact plain hx
      · exact plain hx
    · exact plain hx
  | exit id =>
    refine ⟨?_, fun r rest e => by cases e⟩
    intro C w st a Q Φ hQ hC h ha hx hK; exact wp_exit (hK C _ a w (.refl C w) h ha hx)
  | ret =>
    refine ⟨?_, fun r rest e => by cases e⟩
    intro C w st a Q Φ hQ hC h ha hx hK; exact wp_ret (hK C _ a w (.refl C w) h ha hx)
  | rangeFunc f ps x y ihx ihy =>
    obtain ⟨ihx, ihx2⟩ := ihx
    obtain ⟨ihy, ihy2⟩ := ihy
    refine ⟨?_, fun r rest e => by cases e⟩
    intro C w st a Q Φ hQ hC h ha hx hK; exact hx.elim
  | scope body ih =>
    obtain ⟨ih, ih2⟩ := ih
    refine ⟨?_, fun r rest e => by cases e⟩
    intro C w st a Q Φ hQ hC h ha hx hK
    refine wp_scope_straight (ih (Q := Exit.noGoto Q) (fun c a w hq => hQ c a w hq) hC h ha hx fun C' r a' w' k1 k2 k3 k4 => ?_)
    have := hK C' r a' w' k1 k2 k3 k4
    obtain ⟨e, st'⟩ := r
    cases e <;> exact this
  | goto l =>
    refine ⟨?_, fun r rest e => by cases e⟩
    intro C w st a Q Φ hQ hC h ha hx hK; exact hx.elim
  | refuse why =>
    refine ⟨?_, fun r rest e => by cases e⟩
    intro C w st a Q Φ hQ hC h ha hx hK; exact hx.elim
theorem xcode_ok (htb : TbOk P tb) (hcf : CfOk P X ft cf) (hm : P.follows .mixedOrders = true) {lf : Nat} (c : Code) {C : Ctx} {w : World} {st : St} {a : Act} {Q : Exit → Act → World → Prop} {Φ : Env → XE × St → Prop} (hQ : ∀ c a w, ¬ Q (.panic c) a w) (hC : C.Is X ft) (h : HRel C st.hp w) (ha : ARel C st a)
    (hx : (xcode P tb cf lf c st).holds Φ C.V) (hK : ∀ C' r a' w', Kp C w C' w' → HRel C' r.2.hp w' → ARel C' r.2 a' → Φ C'.V r → Q r.1.real a' w') : c.wp P Q a w :=
  (xcode_both htb hcf hm c).1 hQ hC h ha hx hK
end
end
end Go.Proofs.YtkogjjeoihnjpaaGreat.Sx
end
section
set_option linter.unusedVariables false
set_option linter.unusedSimpArgs false
namespace Go.Proofs.YtkogjjeoihnjpaaGreat.Sx
open Go
noncomputable section
def xres1 (P : Program) (st : St) : ResultVar → Option SV
  | .tmp t => some (st.get t)
  | .cell a t =>
    match st.get a with
    | .pv (.one (.ptr b o)) =>
      match hget st.hp.H b with
      | some (.cells row _ _ _) => (xread P t row o).map .pv
      | _ => none
    | _ => none
def xresL (P : Program) (st : St) : List ResultVar → Option (List SV)
  | [] => some []
  | r :: rs => match xres1 P st r, xresL P st rs with
    | some v, some vs => some (v :: vs)
    | _, _ => none
def asPVs : List SV → Option (List PV)
  | [] => some []
  | .pv p :: r => match asPVs r with | some l => some (p :: l) | none => none
  | _ => none
def xresults (P : Program) (fn : Func) (st : St) : XR :=
  match xresL P st fn.results.toList with
  | some [v] => .ret (v, st.hp)
  | some l => match asPVs l with
    | some ps => .ret (.tup ps, st.hp)
    | none => .bad "results"
  | none => .bad "results"
def putAll (k : Nat) : List SV → Nat → Tr → Tr
  | [], _, t => t
  | v :: vs, n, t => putAll k vs (n + 1) (t.set k n v)
def begin_ (sz : Nat) (args : List SV) (hp : Hp) : St := ⟨sz, putAll (lv sz) args 0 .nil, hp⟩
def xfunc1 (P : Program) (tb : Tb) (cf : Cf) (lf : Nat) (f : FuncId) (args : List SV) (hp : Hp) : XR :=
  match tb f with
  | some fn =>
    match fn.body with
    | some c =>
      natK (max args.length fn.ntmps) fun sz =>
      bif Nat.ble sz 1024 then
        (xcode P tb cf lf c (begin_ sz args hp)).bind fun r =>
          match r.1 with
          | .ext _ => .bad "exit"
          | _ => xresults P fn r.2
      else .bad "slots"
    | none => .bad "body"
  | none => .bad "function"
/-- contracts that are had already -/
abbrev Orc := FuncId → List SV → Hp → Option XR
def OrcOk (P : Program) (X : Ext) (ft : Ft) (orc : Orc) : Prop := ∀ f args hp t, orc f args hp = some t → ∀ (C : Ctx) (w : World) (vs : List Value), C.Is X ft → HRel C hp w → All2 (SV.rel C) args vs → CallOk P C w f vs.toArray t
def xfn (P : Program) (tb : Tb) (orc : Orc) (lf : Nat) : Nat → Cf
  | 0, _, _, _ => .bad "depth"
  | n + 1, f, args, hp => match orc f args hp with
    | some t => t
    | none => xfunc1 P tb (xfn P tb orc lf n) lf f args hp
def rdR (tmps : Array Value) : ResultVar → Sem Value
  | .tmp t => pure (tmps.getD t Go.undef)
  | .cell ad t => do loadVar t (← asAddr (tmps.getD ad Go.undef))
theorem results_rd (fn : Func) (tmps : Array Value) : results fn tmps = (do
    let vs ← fn.results.mapM (rdR tmps)
    pure (if h : vs.size = 1 then vs[0] else .tuple vs)) := by
  unfold results
  congr 1
section
variable {P : Program} {X : Ext} {ft : Ft} {tb : Tb} {cf : Cf} {C : Ctx} {w : World} {st : St} {a : Act}
theorem xres1_ok (h : HRel C st.hp w) (ha : ARel C st a) {r : ResultVar} {sv : SV} (hr : xres1 P st r = some sv) : ∃ v, sv.rel C v ∧ (rdR a.tmps r).run P w = .ok v w := by
  cases r with
  | tmp t =>
    simp only [xres1, Option.some.injEq] at hr
    subst hr
    exact ⟨_, ha.rel t, rfl⟩
  | cell ad t =>
    simp only [xres1] at hr
    have hg := ha.rel ad
    split at hr
    · rename_i b o hb
      rw [hb] at hg
      split at hr
      · rename_i row T es el hrow
        obtain ⟨p, hp1, rfl⟩ := Option.map_eq_some_iff.1 hr
        obtain ⟨g, c, k1, k2⟩ := hg
        obtain ⟨g', c', m1, vs, sp, m2, m3, _⟩ := h.at_ _ _ hrow
        rw [k1] at m1; cases m1
        obtain ⟨u, q1, q2⟩ := xread_ok (P := P) hp1 m2 m3
        exact ⟨u, q2, by simp only [rdR, k2, asAddr]; simpa using q1⟩
      · cases hr
    · cases hr
theorem xresL_ok (h : HRel C st.hp w) (ha : ARel C st a) : ∀ {rs : List ResultVar} {l : List SV}, xresL P st rs = some l → ∃ vs, All2 (SV.rel C) l vs ∧
    (rs.mapM (rdR a.tmps)).run P w = .ok vs w
  | [], l, hl => by cases hl; exact ⟨[], .nil, rfl⟩
  | r :: rs, l, hl => by
    unfold xresL at hl
    split at hl
    · rename_i v vs h1 h2
      cases hl
      obtain ⟨u, k1, k2⟩ := xres1_ok (P := P) h ha h1
      obtain ⟨us, m1, m2⟩ := xresL_ok h ha h2
      refine ⟨u :: us, .cons k1 m1, ?_⟩
      rw [List.mapM_cons]
      simp only [Sem.run_bind]
      rw [k2]
      simp only [Result.andThen_ok]
      rw [m2]
      rfl
    · cases hl
theorem asPVs_ok : ∀ {l : List SV} {ps : List PV} {vs : List Value}, asPVs l = some ps → All2 (SV.rel C) l vs → All2 (PV.rel C) ps vs
  | [], ps, vs, h, hv => by cases hv; cases h; exact .nil
  | x :: xs, ps, vs, h, hv => by
    cases hv with
    | cons h1 h2 =>
      unfold asPVs at h
      split at h
      · rename_i e; cases e
      · rename_i p r e
        cases e
        split at h
        · rename_i l hl
          cases h
          exact .cons h1 (asPVs_ok hl h2)
        · cases h
      · cases h
theorem xresults_ok (h : HRel C st.hp w) (ha : ARel C st a) {fn : Func} {Φ : Env → SV × Hp → Prop} (hx : (xresults P fn st).holds Φ C.V) : ∃ v sv, (results fn a.tmps).run P w = .ok v w ∧ sv.rel C v ∧ Φ C.V (sv, st.hp) := by
  unfold xresults at hx
  have run : ∀ {l : List SV} {vs : List Value}, All2 (SV.rel C) l vs → (fn.results.toList.mapM (rdR a.tmps)).run P w = .ok vs w →
      (results fn a.tmps).run P w = .ok (if h : vs.toArray.size = 1 then vs.toArray[0] else .tuple vs.toArray) w := by
    intro l vs h2 h3
    rw [results_rd, Array.mapM_eq_mapM_toList]
    simp only [Sem.run_bind, Sem.run_map, h3, Result.andThen_ok]
    rfl
  split at hx
  · rename_i v hl
    obtain ⟨vs, k1, k2⟩ := xresL_ok (P := P) h ha hl
    have hr := run k1 k2
    cases k1 with
    | @cons _ u _ us m1 m2 =>
      cases m2
      exact ⟨u, v, by simpa using hr, m1, hx⟩
  · rename_i l hne hl
    split at hx
    · rename_i ps hps
      obtain ⟨vs, k1, k2⟩ := xresL_ok (P := P) h ha hl
      have hr := run k1 k2
      refine ⟨.tuple vs.toArray, .tup ps, ?_, ⟨vs, asPVs_ok hps k1, rfl⟩, hx⟩
      rw [hr]
      rw [dif_neg]
      intro h1
      have h2 := k1.length
      simp at h1
      match l, h2 with
      | [x], _ => exact hne x rfl
      | [], h2 => simp at h2; omega
      | x :: y :: z, h2 => simp at h2; omega
    · exact hx.elim
  · exact hx.elim
theorem putAll_get {k : Nat} : ∀ (vs : List SV) (n : Nat) (t : Tr) (m : Nat), n + vs.length ≤ 2 ^ k → m < 2 ^ k → (putAll k vs n t).get k m = if n ≤ m ∧ m < n + vs.length then vs.getD (m - n) SV.undef else t.get k m
  | [], n, t, m, h, hm => by
    simp only [putAll, List.length_nil, Nat.add_zero]
    rw [if_neg (by omega)]
  | v :: vs, n, t, m, h, hm => by
    simp only [List.length_cons] at h
    simp only [putAll, List.length_cons]
    rw [putAll_get vs (n + 1) _ m (by omega) hm, Tr.get_set k _ _ _ _ (by omega) (by omega)]
    by_cases e : m = n
    · subst e
      rw [if_neg (by omega), if_pos rfl, if_pos (by omega)]
      simp
    · by_cases e2 : n + 1 ≤ m ∧ m < n + 1 + vs.length
      · rw [if_pos e2, if_pos (by omega)]
        have : m - n = (m - (n + 1)) + 1 := by omega
        rw [this, List.getD_cons_succ]
      · rw [if_neg e2, if_neg e, if_neg (by omega)]
theorem begin_rel {args : List SV} {vs : List Value} (hv : All2 (SV.rel C) args vs) (nt : Nat) (hs : max args.length nt ≤ 1024) (hp : Hp) :
    ARel C (begin_ (max args.length nt) args hp) { tmps := vs.toArray ++ Array.replicate (nt - vs.toArray.size) Go.undef, defers := [] } := by
  have hl := hv.length
  refine ⟨?_, hs, fun n => ?_, rfl⟩
  · simp only [begin_, Array.size_append, List.size_toArray, Array.size_replicate]; omega
  · rw [St.get_eq]
    unfold begin_
    simp only
    cases hb : Nat.blt n (max args.length nt) with
    | true =>
      have hn : n < max args.length nt := blt_true.1 hb
      rw [cond_true, Tr.getR_eq, putAll_get args 0 _ n (by have := le_lv (Nat.le_max_left args.length nt); omega) (lt_lv hn)]
      by_cases e : n < args.length
      · rw [if_pos (by omega), Nat.sub_zero]
        obtain ⟨v, k1, k2⟩ := hv.get n args[n] (by simp [e])
        have e1 : args.getD n SV.undef = args[n] := by simp [List.getD, e]
        have e2 : (vs.toArray ++ Array.replicate (nt - vs.toArray.size) Go.undef).getD n Go.undef = v := by
          have : n < vs.length := by omega
          rw [Array.getD_eq_getD_getElem?, Array.getElem?_append_left (by simpa using this)]
          simp [k1]
        rw [e1, e2]; exact k2
      · rw [if_neg (by omega), Tr.get_nil]
        have e2 : (vs.toArray ++ Array.replicate (nt - vs.toArray.size) Go.undef).getD n Go.undef = Go.undef := by
          rw [Array.getD_eq_getD_getElem?, Array.getElem?_append_right (by simp; omega)]
          simp only [Array.getElem?_replicate]
          split <;> rfl
        rw [e2]; rfl
    | false =>
      have hn := blt_false hb
      have e2 : (vs.toArray ++ Array.replicate (nt - vs.toArray.size) Go.undef).getD n Go.undef = Go.undef := by
        rw [Array.getD_eq_getD_getElem?, Array.getElem?_eq_none (by simp; omega)]
        rfl
      rw [cond_false, e2]; rfl
theorem xfunc1_ok (htb : TbOk P tb) (hcf : CfOk P X ft cf) (hm : P.follows .mixedOrders = true) (lf : Nat) : CfOk P X ft (xfunc1 P tb cf lf) := by
  intro f args hp C w vs hC h hv Φ hx
  unfold xfunc1 at hx
  split at hx
  · rename_i fn hf
    obtain ⟨h1, _, c0, h3⟩ := htb f fn hf
    split at hx
    · rename_i c hc
      rw [natK_eq] at hx
      cases hb : Nat.ble (max args.length fn.ntmps) 1024 with
      | false => rw [hb, cond_false] at hx; exact hx.elim
      | true =>
      rw [hb, cond_true, T.holds_bind] at hx
      have ha := begin_rel hv fn.ntmps (Nat.le_of_ble_eq_true hb) hp
      refine calls_of_wp h1 hc ?_
      refine xcode_ok htb hcf hm c ?_ hC h ha hx fun C' r a' w' k1 k2 k3 k4 => ?_
      · rintro ch a w ⟨_, C', v, sv, hp', e, _⟩; cases e
      · obtain ⟨e, st'⟩ := r
        cases e with
        | ext id => exact k4.elim
        | nrm =>
          obtain ⟨v, sv, m1, m2, m3⟩ := xresults_ok (P := P) k2 k3 k4
          exact ⟨k3.defers, v, m1, C', v, sv, st'.hp, rfl, m2, k2, k1, m3⟩
        | ret =>
          obtain ⟨v, sv, m1, m2, m3⟩ := xresults_ok (P := P) k2 k3 k4
          exact ⟨k3.defers, v, m1, C', v, sv, st'.hp, rfl, m2, k2, k1, m3⟩
    · exact hx.elim
  · exact hx.elim
theorem xfn_ok (htb : TbOk P tb) {orc : Orc} (ho : OrcOk P X ft orc) (hm : P.follows .mixedOrders = true) (lf : Nat) : ∀ n, CfOk P X ft (xfn P tb orc lf n) := by
  intro n
  induction n with
  | zero => intro f args hp C w vs hC h hv Φ hx; exact hx.elim
  | succ n ih =>
    intro f args hp C w vs hC h hv
    unfold xfn
    split
    · rename_i t ht
      exact ho f args hp t ht C w vs hC h hv
    · exact xfunc1_ok htb ih hm lf f args hp C w vs hC h hv
end
def noOrc : Orc := fun _ _ _ => none
theorem noOrc_ok (P : Program) (X : Ext) (ft : Ft) : OrcOk P X ft noOrc := fun _ _ _ _ h => nomatch h
end
end Go.Proofs.YtkogjjeoihnjpaaGreat.Sx
end
section
set_option linter.unusedVariables false
set_option linter.unusedSimpArgs false
namespace Go.Proofs.YtkogjjeoihnjpaaGreat.Sx
open Go Go.RowKit
/-- a table by number -/
inductive BT (α : Type) where
  | leaf
  | node (k : Nat) (v : α) (l r : BT α)
def BT.get {α : Type} : BT α → Nat → Option α
  | .leaf, _ => none
  | .node k v l r, n => bif Nat.beq n k then some v else bif Nat.blt n k then l.get n else r.get n
def BT.All {α : Type} (p : Nat → α → Prop) : BT α → Prop
  | .leaf => True
  | .node k v l r => p k v ∧ l.All p ∧ r.All p
theorem BT.get_all {α : Type} {p : Nat → α → Prop} : ∀ {t : BT α} {n : Nat} {v : α}, t.All p → t.get n = some v → p n v
  | .leaf, n, v, h, hg => nomatch hg
  | .node k x l r, n, v, h, hg => by
    unfold BT.get at hg
    cases hb : Nat.beq n k with
    | true =>
      rw [hb, cond_true] at hg
      cases hg
      have : n = k := Nat.eq_of_beq_eq_true hb
      rw [this]; exact h.1
    | false =>
      rw [hb, cond_false] at hg
      cases hl : Nat.blt n k with
      | true => rw [hl, cond_true] at hg; exact BT.get_all h.2.1 hg
      | false => rw [hl, cond_false] at hg; exact BT.get_all h.2.2 hg
def FnOk (P : Program) (g : Nat) (fn : Func) : Prop := P.funcs[g]? = some fn ∧ (fn.name == "runtime.NumGoroutine") = false ∧ ∃ c, fn.body = some c
theorem tbOk_of {P : Program} {t : BT Func} (h : t.All (FnOk P)) : TbOk P t.get := fun g fn hg => BT.get_all h hg
/-- every end is such -/
def T.every {α : Type} (p : α → Bool) : T α → Bool
  | .ret a => p a
  | .ite _ t e => t.every p && e.every p
  | .both t e => t.every p && e.every p
  | .lets _ _ _ _ t => t.every p
  | .bad _ => false
  | .skip => true
theorem T.every_holds {α : Type} {p : α → Bool} : ∀ {t : T α} {V : Env}, t.every p = true → t.holds (fun _ a => p a = true) V
  | .ret a, V, h => h
  | .ite c t e, V, h => by
    simp only [T.every, Bool.and_eq_true] at h
    exact ⟨fun _ => T.every_holds h.1, fun _ => T.every_holds h.2⟩
  | .both t e, V, h => by
    simp only [T.every, Bool.and_eq_true] at h
    exact ⟨T.every_holds h.1, T.every_holds h.2⟩
  | .lets f as s n t, V, h => T.every_holds (t := t) h
  | .bad _, V, h => nomatch h
  | .skip, V, h => trivial
/-- no block is known, no variable -/
def hp0 : Hp := ⟨[], 0, 1606938044258990275541962092341162602522202993782792835301376, [], gh0⟩
def ctx0 (V : Env) : Ctx := ⟨V, fun _ => False, fun _ => none, noExt, fun _ => False, fun _ => False⟩
theorem hrel0 (V : Env) (w : World) : HRel (ctx0 V) hp0 w := ⟨⟨fun b blk h => by simp [hp0, hget] at h, fun b b' blk blk' g c c' h => by simp [hp0, hget] at h⟩, gh0_ok _ _ _ _, (fun b blk g c h => by simp [hp0, hget] at h), (fun b blk g c h => by simp [hp0, hget] at h), fun b _ => ⟨rfl, fun h => h⟩, fun b g c h => nomatch h⟩
theorem Kp.below {V : Env} {w : World} {C' : Ctx} {w' : World} (h : Kp (ctx0 V) w C' w') : Below w.heap.size w w' :=
  ⟨h.os, h.tape, h.output, h.size, fun k hk => h.keep k hk (fun e => e) (fun e => e)⟩
end Go.Proofs.YtkogjjeoihnjpaaGreat.Sx
end
section
set_option linter.unusedVariables false
set_option linter.unusedSimpArgs false
namespace Go.Proofs.YtkogjjeoihnjpaaGreat.Sx
open Go Go.RowKit
/-- what is known of a test -/
def look (c : E) : List (E × Bool) → Option Bool
  | [] => none
  | (e, b) :: r => if e = c then some b else look c r
theorem look_ok {V : Env} {c : E} : ∀ {k : List (E × Bool)} {b : Bool}, (∀ q ∈ k, q.1.tr V = q.2) → look c k = some b → c.tr V = b
  | [], b, _, h => nomatch h
  | (e, b0) :: r, b, hk, h => by
    unfold look at h
    split at h
    · rename_i he; cases h; subst he; exact hk _ List.mem_cons_self
    · exact look_ok (fun q hq => hk q (List.mem_cons_of_mem _ hq)) h
/-- every end is such that what is known leads to -/
def T.everyU {α : Type} (k : List (E × Bool)) (p : α → Bool) : T α → Bool
  | .ret a => p a
  | .ite c t e => match look c k with
    | some true => t.everyU k p
    | some false => e.everyU k p
    | none => t.everyU k p && e.everyU k p
  | .both t e => t.everyU k p && e.everyU k p
  | .lets _ _ _ _ _ => false
  | .bad _ => false
  | .skip => true
theorem T.everyU_holds {α : Type} {k : List (E × Bool)} {p : α → Bool} {V : Env} (hk : ∀ q ∈ k, q.1.tr V = q.2) : ∀ {t : T α}, t.everyU k p = true → t.holds (fun _ a => p a = true) V
  | .ret a, h => h
  | .ite c t e, h => by
    simp only [T.everyU] at h
    split at h
    · rename_i hl
      have := look_ok hk hl
      exact ⟨fun _ => T.everyU_holds hk h, fun hc => by rw [this] at hc; cases hc⟩
    · rename_i hl
      have := look_ok hk hl
      exact ⟨fun hc => by (rw [this] at hc; cases hc), fun _ => T.everyU_holds hk h⟩
    · simp only [Bool.and_eq_true] at h
      exact ⟨fun _ => T.everyU_holds hk h.1, fun _ => T.everyU_holds hk h.2⟩
  | .both t e, h => by
    simp only [T.everyU, Bool.and_eq_true] at h
    exact ⟨T.everyU_holds hk h.1, T.everyU_holds hk h.2⟩
  | .lets f as s n t, h => nomatch h
  | .bad _, h => nomatch h
  | .skip, h => trivial
/-- does this cell have that form? -/
def fit1 (x y : SC) (p : Nat) : Bool :=
  match x, y with
  | .int k (.var lo hi i), .int k' (.lit n) => decide (k = k') && Nat.beq i p && Nat.blt p 1000 && decide (lo ≤ n) && decide (n ≤ hi)
  | .int k (.lit m), .int k' (.lit n) => decide (k = k') && decide (m = n)
  | .bool (.tt a), .bool (.tt b) => a == b
  | _, _ => false
/-- do these cells have that form? -/
def fitsG : List SC → List SC → Nat → Bool
  | [], [], _ => true
  | x :: g, y :: c, p => fit1 x y p && fitsG g c (p + 1)
  | _, _, _ => false
def litAt (cs : List SC) (i : Nat) : Int :=
  match cs[i]? with
  | some (.int _ (.lit n)) => n
  | _ => 0
def envOf (cs : List SC) : Env := ⟨litAt cs, fun _ => false, fun _ => Go.undef, fun _ _ => []⟩
def hp1 : Hp := ⟨[], 1000, 1606938044258990275541962092341162602522202993782792835301376, [], gh0⟩
def ctx1 (V : Env) : Ctx := ⟨V, fun i => i < 1000, fun _ => none, noExt, fun _ => False, fun _ => False⟩
theorem hrel1 (V : Env) (w : World) : HRel (ctx1 V) hp1 w := ⟨⟨fun b blk h => by simp [hp1, hget] at h, fun b b' blk blk' g c c' h => by simp [hp1, hget] at h⟩, gh0_ok _ _ _ _, (fun b blk g c h => by simp [hp1, hget] at h), (fun b blk g c h => by simp [hp1, hget] at h), fun b hb => ⟨rfl, fun h => by
  rcases hb with ⟨h1, _⟩ | ⟨r, hr, _⟩
  · simp only [hp1] at h1; exact absurd h (by show ¬ b < 1000; omega)
  · simp [hp1] at hr⟩, fun b g c h => nomatch h⟩
theorem fit1_rel {C : Ctx} {V : Env} {x y : SC} {p : Nat} (hf : fit1 x y p = true) {u : Value} (h1 : y.rel C u) (hV : ∀ k n, y = .int k (.lit n) → V.i p = n) : x.rel (ctx1 V) u := by
  unfold fit1 at hf
  split at hf
  · rename_i k lo hi i k' n
    simp only [Bool.and_eq_true, decide_eq_true_eq] at hf
    obtain ⟨⟨⟨⟨rfl, hi'⟩, hp⟩, hlo⟩, hhi⟩ := hf
    have hi' : i = p := Nat.eq_of_beq_eq_true hi'
    have hp : p < 1000 := by simpa [Nat.blt_eq] using hp
    subst hi'
    have hv : V.i i = n := hV k n rfl
    refine ⟨⟨hp, by rw [show (ctx1 V).V.i i = V.i i from rfl, hv]; exact hlo, by rw [show (ctx1 V).V.i i = V.i i from rfl, hv]; exact hhi⟩, ?_⟩
    rw [h1.2]
    show Value.int k n = Value.int k (V.i i)
    rw [hv]
  · rename_i k m k' n
    simp only [Bool.and_eq_true, decide_eq_true_eq] at hf
    obtain ⟨rfl, rfl⟩ := hf
    exact ⟨trivial, h1.2⟩
  · rename_i a b
    rw [beq_iff_eq] at hf
    subst hf
    exact ⟨trivial, h1.2⟩
  · cases hf
theorem fits_rel {C : Ctx} {V : Env} : ∀ {g c : List SC} {us : List Value} {p : Nat}, fitsG g c p = true → All2 (SC.rel C) c us → (∀ i k n, c[i]? = some (.int k (.lit n)) → V.i (p + i) = n) → All2 (SC.rel (ctx1 V)) g us
  | [], [], us, p, _, h, _ => by cases h; exact .nil
  | x :: g, y :: c, us, p, hf, h, hV => by
    cases h with
    | @cons _ u _ us h1 h2 =>
      simp only [fitsG, Bool.and_eq_true] at hf
      refine .cons (fit1_rel hf.1 h1 fun k n e => by subst e; exact hV 0 k n (by simp)) (fits_rel hf.2 h2 fun i k n hi => ?_)
      have := hV (i + 1) k n (by simpa using hi)
      rwa [show p + 1 + i = p + (i + 1) by omega]
  | [], y :: c, us, p, hf, _, _ => by simp [fitsG] at hf
  | x :: g, [], us, p, hf, _, _ => by simp [fitsG] at hf
/-- it is b -/
def SV.isB (b : Bool) : SV → Bool
  | .pv (.one (.bool (.tt x))) => x == b
  | _ => false
theorem SV.isB_ok {b : Bool} {sv : SV} (h : sv.isB b = true) : sv = .sc (.bool (.tt b)) := by
  unfold SV.isB at h
  split at h
  · rw [beq_iff_eq.1 h]
  · cases h
def memoOrc (f0 : FuncId) (gen : List SC) (facts : List (E × Bool)) (b : Bool) : Orc := fun f args hp =>
  bif Nat.beq f f0 then
    match args with
    | [.pv (.agg cs)] => bif fitsG gen cs 0 && facts.all (fun q => q.1.tr (envOf cs) == q.2) then some (.ret (.sc (.bool (.tt b)), hp)) else none
    | _ => none
  else none
theorem Kp.rest {C : Ctx} {V : Env} {C' : Ctx} {hp : Hp} {w w' : World} (h : HRel C hp w) (k : Kp (ctx1 V) w C' w') : HRel C hp w' ∧ Kp C w C w' := by
  have keep : ∀ g, g < w.heap.size → w'.heap[g]? = w.heap[g]? := fun g hg => k.keep g hg (fun e => e) (fun e => e)
  refine ⟨⟨⟨fun b blk hb => ?_, h.inj⟩, h.ext.keep k.size (fun g hg => keep g (h.ext.lt g hg)), h.apart, h.own, h.free, fun b g c hb => Nat.lt_of_lt_of_le (h.blt b g c hb) k.size⟩, .refl C, k.size, k.tape, k.os, k.output, fun g hg _ _ => keep g hg, fun _ h => .inl h, fun _ h => .inl h, fun b _ c h => .inl ⟨b, c, h⟩⟩
  obtain ⟨g, c, k1, k2⟩ := h.at_ b blk hb
  exact ⟨g, c, k1, by rw [keep g k2.lt]; exact k2⟩
theorem memo_ok {P : Program} {tb : Tb} (htb : TbOk P tb) (hm : P.follows .mixedOrders = true) {f0 : FuncId} {gen : List SC} {facts : List (E × Bool)} {b : Bool} {lf n : Nat}
    (hr : (xfn P tb noOrc lf n f0 [.pv (.agg gen)] hp1).everyU facts (fun a => a.1.isB b) = true) (X : Ext) (ft : Ft) : OrcOk P X ft (memoOrc f0 gen facts b) := by
  intro f args hp t ht C w vs hC h hv Φ hx
  unfold memoOrc at ht
  cases hb : Nat.beq f f0 with
  | false => rw [hb, cond_false] at ht; cases ht
  | true =>
    rw [hb, cond_true] at ht
    have hf : f = f0 := Nat.eq_of_beq_eq_true hb
    subst hf
    split at ht
    · rename_i cs
      cases hc : (fitsG gen cs 0 && facts.all (fun q => q.1.tr (envOf cs) == q.2)) with
      | false => rw [hc, cond_false] at ht; cases ht
      | true =>
        rw [hc, cond_true] at ht
        cases ht
        simp only [Bool.and_eq_true, List.all_eq_true, beq_iff_eq] at hc
        obtain ⟨hc1, hc2⟩ := hc
        cases hv with
        | @cons _ v _ vs h1 h2 =>
          cases h2
          obtain ⟨us, hu, rfl⟩ := h1
          have hfit : All2 (SC.rel (ctx1 (envOf cs))) gen us := fits_rel hc1 hu fun i k n hi => by
            show litAt cs (0 + i) = n
            rw [Nat.zero_add]; unfold litAt; rw [hi]
          have := xfn_ok (X := noExt) (ft := (envOf cs).f) htb (noOrc_ok P _ _) hm lf n f [.pv (.agg gen)] hp1 (ctx1 (envOf cs)) w [.agg us.toArray] ⟨rfl, rfl, fun _ _ h => nomatch h⟩ (hrel1 _ w) (.cons ⟨us, hfit, rfl⟩ .nil)
            (fun _ a => a.1.isB b = true) (T.everyU_holds hc2 hr)
          refine this.mono fun e w' hh => ?_
          obtain ⟨C', v', sv, hp', he, hrel, hH, hK, hb'⟩ := hh
          have := SV.isB_ok hb'
          simp only at this
          subst this
          obtain ⟨k1, k2⟩ := hK.rest h
          exact ⟨C, v', .sc (.bool (.tt b)), hp, he, ⟨trivial, hrel.2⟩, k1, k2, hx⟩
    · cases ht
end Go.Proofs.YtkogjjeoihnjpaaGreat.Sx
end
section
set_option linter.unusedVariables false
set_option linter.unusedSimpArgs false
namespace Go.Proofs.YtkogjjeoihnjpaaGreat.Sx
open Go Go.RowKit Go.WideShapes
/-- cells of one kind: numbers, truths -/
def plainT (P : Program) (u : TypeId) : Bool :=
  match P.underlying u with
  | some (.int _) => true
  | some .bool => true
  | _ => false
def onesB (P : Program) (t : TypeId) (n : Nat) : Bool :=
  match P.cellTypes P.depth t with
  | some ts => ts.all (plainT P) && Nat.beq (P.cellsOf t) n && !ts.isEmpty
  | none => false
theorem plain_one {P : Program} {w : World} {r : Go.Reach} {b : Nat} {u : TypeId} {v : Value} (hu : plainT P u = true) (h : Cell.okWide P w r b u v) : v.oneCell' = true := by
  unfold plainT at hu
  split at hu
  · rename_i k hk
    unfold Cell.okWide at h
    rw [hk] at h
    simp only at h
    unfold Cell.ok at h
    rw [hk] at h
    cases v <;> first | rfl | exact h.elim | simp at h
  · rename_i hk
    unfold Cell.okWide at h
    rw [hk] at h
    simp only at h
    unfold Cell.ok at h
    rw [hk] at h
    cases v <;> first | rfl | exact h.elim | simp at h
  · cases hu
theorem agg_ones {P : Program} {w : World} {r : Go.Reach} {b n : Nat} {t : TypeId} {fs : Array Field} (ht : P.underlying t = some (.struct fs)) (hb : onesB P t n = true) {v : Value} (h : Value.okWide P w r b t v) : ∃ cs : List Value, v = .agg cs.toArray ∧ cs.length = n ∧ ∀ c ∈ cs, c.oneCell' = true := by
  unfold Value.okWide at h
  rw [ht] at h
  simp only at h
  obtain ⟨cs, rfl, hs, ts, h1, _, h3⟩ := h
  unfold onesB at hb
  rw [h1] at hb
  simp only [Bool.and_eq_true] at hb
  obtain ⟨⟨hb1, hb2⟩, hb3⟩ := hb
  refine ⟨cs.toList, by simp, by simp [hs, Nat.eq_of_beq_eq_true hb2], fun c hc => ?_⟩
  obtain ⟨i, hi⟩ := List.mem_iff_getElem?.1 hc
  obtain ⟨u, k1, k2⟩ := h3 i c (by simpa using hi)
  exact plain_one (List.all_eq_true.1 hb1 u (List.mem_of_getElem? k1)) k2
/-- cells that are not looked into, numbered -/
def exts : Nat → Nat → List SC
  | _, 0 => []
  | i, n + 1 => .ext i :: exts (i + 1) n
theorem exts_rel {C : Ctx} : ∀ {cs : List Value} {i : Nat}, (∀ j c, cs[j]? = some c → C.V.x (i + j) = c ∧ C.vd (i + j) ∧ c.oneCell' = true) → All2 (SC.rel C) (exts i cs.length) cs
  | [], i, _ => .nil
  | c :: cs, i, h => by
    obtain ⟨k1, k2, k3⟩ := h 0 c (by simp)
    refine .cons ⟨k2, k1.symm, k3⟩ (exts_rel fun j c hj => ?_)
    have := h (j + 1) c (by simpa using hj)
    rwa [show i + 1 + j = i + (j + 1) by omega]
/-- one contract, or the other -/
def orcOr (a b : Orc) : Orc := fun f args hp =>
  match a f args hp with
  | some t => some t
  | none => b f args hp
theorem orcOr_ok {P : Program} {X : Ext} {ft : Ft} {a b : Orc} (ha : OrcOk P X ft a) (hb : OrcOk P X ft b) : OrcOk P X ft (orcOr a b) := by
  intro f args hp t h
  unfold orcOr at h
  split at h
  · rename_i t' ht; cases h; exact ha f args hp _ ht
  · exact hb f args hp t h
/-- a function without arguments that answers b -/
def memo0 (f0 : FuncId) (b : Bool) : Orc := fun f args hp =>
  bif Nat.beq f f0 then
    match args with
    | [] => some (.ret (.sc (.bool (.tt b)), hp))
    | _ => none
  else none
theorem memo0_ok {P : Program} {tb : Tb} (htb : TbOk P tb) (hm : P.follows .mixedOrders = true) {f0 : FuncId} {b : Bool} {lf n : Nat} {orc : Orc} (ho : ∀ X ft, OrcOk P X ft orc)
    (hr : (xfn P tb orc lf n f0 [] hp1).every (fun a => a.1.isB b) = true) (X : Ext) (ft : Ft) : OrcOk P X ft (memo0 f0 b) := by
  intro f args hp t ht C w vs hC h hv Φ hx
  unfold memo0 at ht
  cases hb : Nat.beq f f0 with
  | false => rw [hb, cond_false] at ht; cases ht
  | true =>
    rw [hb, cond_true] at ht
    have hf : f = f0 := Nat.eq_of_beq_eq_true hb
    subst hf
    split at ht
    · cases ht
      cases hv
      have := xfn_ok (X := noExt) (ft := (envOf []).f) htb (ho noExt (envOf []).f) hm lf n f [] hp1 (ctx1 (envOf [])) w [] ⟨rfl, rfl, fun _ _ h => nomatch h⟩ (hrel1 _ w) .nil (fun _ a => a.1.isB b = true) (T.every_holds hr)
      refine this.mono fun e w' hh => ?_
      obtain ⟨C', v', sv, hp', he, hrel, hH, hK, hb'⟩ := hh
      have := SV.isB_ok hb'
      simp only at this
      subst this
      obtain ⟨k1, k2⟩ := hK.rest h
      exact ⟨C, v', .sc (.bool (.tt b)), hp, he, ⟨trivial, hrel.2⟩, k1, k2, hx⟩
    · cases ht
/-- the other way round -/
def turnOp : BinOp → Option BinOp
  | .lss => some .geq
  | .geq => some .lss
  | .leq => some .gtr
  | .gtr => some .leq
  | .eql => some .neq
  | .neq => some .eql
  | _ => none
theorem turnOp_ok {op op' : BinOp} (h : turnOp op = some op') (x y : Int) : cmpD op x y = !cmpD op' x y := by
  cases op <;> simp only [turnOp, Option.some.injEq] at h <;> first | (cases h; done) | (subst h; simp only [cmpD]) | skip
  all_goals first
    | (cases h1 : decide (x < y) <;> cases h2 : decide (x ≥ y) <;> simp_all <;> omega)
    | (cases h1 : decide (x ≤ y) <;> cases h2 : decide (x > y) <;> simp_all <;> omega)
    | (cases h1 : (x == y) <;> simp_all [bne])
/-- what is known of a test that is put together -/
def lookE (k : List (E × Bool)) : E → Option Bool
  | .tt b => some b
  | .no a => (lookE k a).map (!·)
  | .ite c a b => match lookE k c with
    | some true => lookE k a
    | some false => lookE k b
    | none => none
  | .cmp op a b => match look (.cmp op a b) k with
    | some x => some x
    | none => match turnOp op with
      | some op' => (look (.cmp op' a b) k).map (!·)
      | none => none
  | c => look c k
theorem lookE_ok {V : Env} {k : List (E × Bool)} (hk : ∀ q ∈ k, q.1.tr V = q.2) : ∀ {c : E} {b : Bool}, lookE k c = some b → c.tr V = b
  | .tt x, b, h => by cases h; rfl
  | .no a, b, h => by
    simp only [lookE, Option.map_eq_some_iff] at h
    obtain ⟨x, hx, rfl⟩ := h
    rw [tr_no, lookE_ok hk hx]
  | .ite c x y, b, h => by
    simp only [lookE] at h
    rw [tr_ite]
    split at h
    · rename_i hc; rw [lookE_ok hk hc, if_pos rfl]; exact lookE_ok hk h
    · rename_i hc; rw [lookE_ok hk hc, if_neg (by decide)]; exact lookE_ok hk h
    · cases h
  | .cmp op x y, b, h => by
    simp only [lookE] at h
    split at h
    · rename_i z hz; cases h; exact look_ok hk hz
    · split at h
      · rename_i op' ho
        obtain ⟨z, hz, rfl⟩ := Option.map_eq_some_iff.1 h
        have := look_ok hk hz
        rw [tr_cmp] at this ⊢
        rw [turnOp_ok ho, this]
      · cases h
  | .lit n, b, h => look_ok hk h
  | .var l u i, b, h => look_ok hk h
  | .bin op kk x y, b, h => look_ok hk h
  | .pl op x y, b, h => look_ok hk h
  | .cast kk x, b, h => look_ok hk h
  | .bvar i, b, h => look_ok hk h
  | .ix n s a, b, h => look_ok hk h
/-- every end is such; what has been asked once is not asked again -/
def T.everyP {α : Type} (p : α → Bool) : T α → List (E × Bool) → Bool
  | .ret a, _ => p a
  | .ite c t e, k => match lookE k c with
    | some true => t.everyP p k
    | some false => e.everyP p k
    | none => t.everyP p ((c, true) :: k) && e.everyP p ((c, false) :: k)
  | .both t e, k => t.everyP p k && e.everyP p k
  | .lets _ _ _ _ _, _ => false
  | .bad _, _ => false
  | .skip, _ => true
theorem T.everyP_holds {α : Type} {p : α → Bool} {V : Env} : ∀ {t : T α} {k : List (E × Bool)}, (∀ q ∈ k, q.1.tr V = q.2) → t.everyP p k = true → t.holds (fun _ a => p a = true) V
  | .ret a, k, hk, h => h
  | .ite c t e, k, hk, h => by
    simp only [T.everyP] at h
    split at h
    · rename_i hl
      have := lookE_ok hk hl
      exact ⟨fun _ => T.everyP_holds hk h, fun hc => by rw [this] at hc; cases hc⟩
    · rename_i hl
      have := lookE_ok hk hl
      exact ⟨fun hc => by (rw [this] at hc; cases hc), fun _ => T.everyP_holds hk h⟩
    · simp only [Bool.and_eq_true] at h
      refine ⟨fun hc => T.everyP_holds (fun q hq => ?_) h.1, fun hc => T.everyP_holds (fun q hq => ?_) h.2⟩
      · rcases List.mem_cons.1 hq with rfl | hq
        · exact hc
        · exact hk q hq
      · rcases List.mem_cons.1 hq with rfl | hq
        · exact hc
        · exact hk q hq
  | .both t e, k, hk, h => by
    simp only [T.everyP, Bool.and_eq_true] at h
    exact ⟨T.everyP_holds hk h.1, T.everyP_holds hk h.2⟩
  | .lets f as s n t, k, hk, h => nomatch h
  | .bad _, k, hk, h => nomatch h
  | .skip, k, hk, h => trivial
/-! ### what a function answers to values of the text -/
def SC.shut : SC → Bool
  | .int _ (.lit _) => true
  | .bool (.tt _) => true
  | .str _ => true
  | .nilp => true
  | .nils => true
  | .nilm => true
  | .nilFunc => true
  | .nilIface => true
  | .undef => true
  | _ => false
theorem SC.shut_rel {C C' : Ctx} {c : SC} (h : c.shut = true) {v : Value} (k : c.rel C v) : c.rel C' v := by
  unfold SC.shut at h
  split at h
  · exact ⟨trivial, k.2⟩
  · exact ⟨trivial, k.2⟩
  · exact k
  · exact k
  · exact k
  · exact k
  · exact k
  · exact k
  · exact k
  · cases h
theorem shut_list {C C' : Ctx} : ∀ {l : List SC} {vs : List Value}, l.all SC.shut = true → All2 (SC.rel C) l vs → All2 (SC.rel C') l vs
  | [], _, _, .nil => .nil
  | c :: l, _, h, .cons h1 h2 => by
    simp only [List.all_cons, Bool.and_eq_true] at h
    exact .cons (SC.shut_rel h.1 h1) (shut_list h.2 h2)
def PV.shut : PV → Bool
  | .one c => c.shut
  | .agg cs => cs.all SC.shut
theorem PV.shut_rel {C C' : Ctx} {p : PV} (h : p.shut = true) {v : Value} (k : p.rel C v) : p.rel C' v := by
  cases p with
  | one c => exact SC.shut_rel h k
  | agg cs => obtain ⟨vs, k1, k2⟩ := k; exact ⟨vs, shut_list h k1, k2⟩
def SV.shut : SV → Bool
  | .pv p => p.shut
  | _ => false
theorem SV.shut_rel {C C' : Ctx} {p : SV} (h : p.shut = true) {v : Value} (k : p.rel C v) : p.rel C' v := by
  cases p with
  | pv p => exact PV.shut_rel h k
  | tup ps => cases h
  | any => cases h
theorem shut_args {C C' : Ctx} : ∀ {l : List SV} {vs : List Value}, l.all SV.shut = true → All2 (SV.rel C) l vs → All2 (SV.rel C') l vs
  | [], _, _, .nil => .nil
  | c :: l, _, h, .cons h1 h2 => by
    simp only [List.all_cons, Bool.and_eq_true] at h
    exact .cons (SV.shut_rel h.1 h1) (shut_args h.2 h2)
def memoV (f0 : FuncId) (args : List SV) (res : SV) : Orc := fun f as hp =>
  bif Nat.beq f f0 then (bif listSame svSame as args then some (.ret (res, hp)) else none) else none
theorem memoV_ok {P : Program} {tb : Tb} (htb : TbOk P tb) (hm : P.follows .mixedOrders = true) {f0 : FuncId} {args : List SV} {res : SV} {lf n : Nat} {orc : Orc} (ho : ∀ X ft, OrcOk P X ft orc) (hc : (args.all SV.shut && res.shut) = true)
    (hr : (xfn P tb orc lf n f0 args hp1).every (fun a => svSame a.1 res) = true) (X : Ext) (ft : Ft) : OrcOk P X ft (memoV f0 args res) := by
  intro f as hp t ht C w vs hC h hv Φ hx
  unfold memoV at ht
  cases hb : Nat.beq f f0 with
  | false => rw [hb, cond_false] at ht; cases ht
  | true =>
    rw [hb, cond_true] at ht
    cases hs : listSame svSame as args with
    | false => rw [hs, cond_false] at ht; cases ht
    | true =>
      rw [hs, cond_true] at ht
      cases ht
      have hf : f = f0 := Nat.eq_of_beq_eq_true hb
      subst hf
      have ha : as = args := listSame_ok (fun _ _ => svSame_ok) hs
      subst ha
      simp only [Bool.and_eq_true] at hc
      have := xfn_ok (X := noExt) (ft := (envOf []).f) htb (ho noExt (envOf []).f) hm lf n f as hp1 (ctx1 (envOf [])) w vs ⟨rfl, rfl, fun _ _ h => nomatch h⟩ (hrel1 _ w) (shut_args hc.1 hv) (fun _ a => svSame a.1 res = true) (T.every_holds hr)
      refine this.mono fun e w' hh => ?_
      obtain ⟨C', v', sv, hp', he, hrel, hH, hK, hb'⟩ := hh
      have := svSame_ok hb'
      simp only at this
      subst this
      obtain ⟨k1, k2⟩ := hK.rest h
      exact ⟨C, v', sv, hp, he, SV.shut_rel hc.2 hrel, k1, k2, hx⟩
end Go.Proofs.YtkogjjeoihnjpaaGreat.Sx
end
section
set_option linter.unusedVariables false
set_option linter.unusedSimpArgs false
namespace Go.Proofs.YtkogjjeoihnjpaaGreat.Sx
open Go Go.RowKit
noncomputable section
/-! ### new variables -/
/-- may n numbers be given, from nx on? -/
def Hp.canN (hp : Hp) (n : Nat) : Bool := Nat.ble (hp.nx + n) hp.lim && hp.rest.all fun r => Nat.ble (hp.nx + n) r.1 || Nat.ble r.2 hp.nx
/-- variables, one for each pair of bounds, from s on -/
def vars : Nat → List (Int × Int) → List E
  | _, [] => []
  | s, (l, h) :: r => .var l h s :: vars (s + 1) r
/-- the same, laid out at once -/
def varsK {β : Type} : Nat → List (Int × Int) → (List E → β) → β
  | _, [], k => k []
  | s, (l, h) :: r, k => natK s fun s => varsK (s + 1) r fun t => k (.var l h s :: t)
theorem varsK_eq {β : Type} : ∀ (s : Nat) (rs : List (Int × Int)) (k : List E → β), varsK s rs k = k (vars s rs)
  | s, [], k => rfl
  | s, (l, h) :: r, k => by rw [varsK, natK_eq, varsK_eq]; rfl
def allEq : List E → List E → Bool
  | [], [] => true
  | a :: as, b :: bs => bif eEq a b then allEq as bs else false
  | _, _ => false
theorem allEq_ok (V : Env) : ∀ {as bs : List E}, allEq as bs = true → as.map (E.den V) = bs.map (E.den V)
  | [], [], _ => rfl
  | a :: as, b :: bs, h => by
    obtain ⟨h1, h2⟩ := and_bif h
    simp only [List.map_cons, eEq_den h1, allEq_ok V h2]
  | [], _ :: _, h => nomatch h
  | _ :: _, [], h => nomatch h
/-- has this been asked? -/
def lookD (f : Nat) (as : List E) : List Df → Option (List E)
  | [] => none
  | q :: r => bif (bif Nat.beq q.f f then allEq q.as as else false) then some q.outs else lookD f as r
theorem lookD_ok {f : Nat} {as outs : List E} : ∀ {d : List Df}, lookD f as d = some outs → ∃ q ∈ d, q.f = f ∧ allEq q.as as = true ∧ q.outs = outs
  | [], h => nomatch h
  | q :: r, h => by
    unfold lookD at h
    cases hb : (bif Nat.beq q.f f then allEq q.as as else false) with
    | true =>
      rw [hb, cond_true] at h
      cases h
      obtain ⟨h1, h2⟩ := and_bif hb
      exact ⟨q, List.mem_cons_self, Nat.eq_of_beq_eq_true h1, h2, rfl⟩
    | false =>
      rw [hb, cond_false] at h
      obtain ⟨q', h1, h2⟩ := lookD_ok h
      exact ⟨q', List.mem_cons_of_mem _ h1, h2⟩
/-- numbers between bounds -/
def InB (rs : List (Int × Int)) (l : List Int) : Prop := l.length = rs.length ∧ ∀ (j : Nat) r n, rs[j]? = some r → l[j]? = some n → r.1 ≤ n ∧ n ≤ r.2
/-- variables that stand s places on -/
def E.up (s : Nat) : E → E
  | .lit n => .lit n
  | .var l h i => natK (s + i) fun i => .var l h i
  | .bin op k a b => .bin op k (a.up s) (b.up s)
  | .pl op a b => .pl op (a.up s) (b.up s)
  | .cast k a => .cast k (a.up s)
  | .ite c a b => .ite (c.up s) (a.up s) (b.up s)
  | .tt b => .tt b
  | .bvar i => .bvar i
  | .cmp op a b => .cmp op (a.up s) (b.up s)
  | .no a => .no (a.up s)
  | .ix n t a => .ix n t a
/-- does it speak of these variables alone? -/
def scB (rs : List (Int × Int)) : E → Bool
  | .lit _ => true
  | .var lo hi i => match rs[i]? with
    | some (l, h) => bif decide (lo ≤ l) then decide (h ≤ hi) else false
    | none => false
  | .bin _ _ a b => bif scB rs a then scB rs b else false
  | .pl _ a b => bif scB rs a then scB rs b else false
  | .cast _ a => scB rs a
  | .ite c a b => bif scB rs c then (bif scB rs a then scB rs b else false) else false
  | .tt _ => true
  | .bvar _ => false
  | .cmp _ a b => bif scB rs a then scB rs b else false
  | .no a => scB rs a
  | .ix _ _ _ => false
/-- numbers alone -/
def env0 (args : List Int) : Env := ⟨fun i => args.getD i 0, fun _ => false, fun _ => Go.undef, fun _ _ => []⟩
theorem inB_get {rs : List (Int × Int)} {args : List Int} (h : InB rs args) {i : Nat} {r : Int × Int} (hr : rs[i]? = some r) : r.1 ≤ args.getD i 0 ∧ args.getD i 0 ≤ r.2 := by
  have hi : i < rs.length := (List.getElem?_eq_some_iff.1 hr).1
  have hi' : i < args.length := by rw [h.1]; exact hi
  have := h.2 i r args[i] hr (by simp [hi'])
  simpa [List.getD, hi'] using this
/-- where the variables are args, from s on -/
theorem up_ok {V : Env} {d : Nat → Prop} {rs : List (Int × Int)} {args : List Int} (h : InB rs args) {s : Nat} (hd : ∀ i, i < rs.length → d (s + i)) (hV : ∀ i, i < rs.length → V.i (s + i) = args.getD i 0) : ∀ {e : E}, scB rs e = true → (e.up s).sc V d ∧ (e.up s).ev V = e.ev (env0 args)
  | .lit _, _ => ⟨trivial, rfl⟩
  | .var lo hi i, hb => by
    unfold scB at hb
    split at hb
    · rename_i l u hr
      obtain ⟨h1, h2⟩ := and_bif hb
      have h1 := of_decide_eq_true h1
      have h2 := of_decide_eq_true h2
      have hi := (List.getElem?_eq_some_iff.1 hr).1
      have := inB_get h hr
      simp only at this
      unfold E.up
      rw [natK_eq]
      refine ⟨⟨hd i hi, ?_, ?_⟩, ?_⟩
      · rw [hV i hi]; omega
      · rw [hV i hi]; omega
      · simp only [E.ev, hV i hi]; rfl
    · cases hb
  | .bin _ _ a b, hb => by
    obtain ⟨h1, h2⟩ := and_bif hb
    obtain ⟨k1, k2⟩ := up_ok h hd hV h1; obtain ⟨m1, m2⟩ := up_ok h hd hV h2
    exact ⟨⟨k1, m1⟩, by simp only [E.up, E.ev, k2, m2]⟩
  | .pl _ a b, hb => by
    obtain ⟨h1, h2⟩ := and_bif hb
    obtain ⟨k1, k2⟩ := up_ok h hd hV h1; obtain ⟨m1, m2⟩ := up_ok h hd hV h2
    exact ⟨⟨k1, m1⟩, by simp only [E.up, E.ev, k2, m2]⟩
  | .cast _ a, hb => by
    obtain ⟨k1, k2⟩ := up_ok (e := a) h hd hV hb
    exact ⟨k1, by simp only [E.up, E.ev, k2]⟩
  | .ite c a b, hb => by
    obtain ⟨h1, h2⟩ := and_bif hb; obtain ⟨h2, h3⟩ := and_bif h2
    obtain ⟨k1, k2⟩ := up_ok h hd hV h1; obtain ⟨m1, m2⟩ := up_ok h hd hV h2; obtain ⟨n1, n2⟩ := up_ok h hd hV h3
    exact ⟨⟨k1, m1, n1⟩, by simp only [E.up, E.ev, k2, m2, n2]⟩
  | .tt _, _ => ⟨trivial, rfl⟩
  | .bvar _, hb => nomatch hb
  | .cmp _ a b, hb => by
    obtain ⟨h1, h2⟩ := and_bif hb
    obtain ⟨k1, k2⟩ := up_ok h hd hV h1; obtain ⟨m1, m2⟩ := up_ok h hd hV h2
    exact ⟨⟨k1, m1⟩, by simp only [E.up, E.ev, k2, m2]⟩
  | .no a, hb => by
    obtain ⟨k1, k2⟩ := up_ok (e := a) h hd hV hb
    exact ⟨k1, by simp only [E.up, E.ev, k2]⟩
  | .ix _ _ _, hb => nomatch hb
def upK (s : Nat) : Ks → Ks → Ks
  | [], r => r
  | (e, b) :: t, r => (e.up s, b) :: upK s t r
def xlets {α : Type} (hp : Hp) (f : Nat) (as : List E) (rs : List (Int × Int)) (post : List E → Ks) (k : List E → Hp → T α) : T α :=
  match lookD f as hp.gh.d with
  | some outs => k outs hp
  | none => bif hp.canN rs.length then natK hp.nx fun s => varsK s rs fun vs => .lets f as s rs.length (natK (s + rs.length) fun nx => ksK (post vs ++ hp.gh.k) fun ks => k vs ⟨hp.H, nx, hp.lim, hp.rest, ⟨ks, ⟨f, as, vs⟩ :: hp.gh.d, hp.gh.m⟩⟩) else .bad "numbers"
theorem vars_get : ∀ {s : Nat} {rs : List (Int × Int)} {e : E}, e ∈ vars s rs → ∃ j r, rs[j]? = some r ∧ e = .var r.1 r.2 (s + j)
  | s, [], e, h => nomatch h
  | s, (l, u) :: r, e, h => by
    rcases List.mem_cons.1 h with rfl | h
    · exact ⟨0, (l, u), rfl, rfl⟩
    · obtain ⟨j, q, h1, h2⟩ := vars_get h
      exact ⟨j + 1, q, by simpa using h1, by rw [h2]; congr 1; omega⟩
theorem vars_den {V : Env} : ∀ {s : Nat} {rs : List (Int × Int)} {l : List Int}, l.length = rs.length → (∀ j n, l[j]? = some n → V.i (s + j) = n) → (vars s rs).map (E.den V) = l
  | s, [], [], _, _ => rfl
  | s, [], _ :: _, h, _ => by simp at h
  | s, _ :: _, [], h, _ => by simp at h
  | s, (a, b) :: r, n :: l, h, hV => by
    simp only [vars, List.map_cons]
    have h0 := hV 0 n (by simp)
    rw [Nat.add_zero] at h0
    rw [den_var, h0, vars_den (by simpa using h) fun j m hj => by
      have := hV (j + 1) m (by simpa using hj)
      rwa [show s + 1 + j = s + (j + 1) by omega]]
theorem xlets_ok {α : Type} {Φ : Env → α → Prop} {C : Ctx} {hp : Hp} {w : World} (h : HRel C hp w) {f : Nat} {as : List E} {rs : List (Int × Int)} {post : List E → Ks} {k : List E → Hp → T α} (hs : ∀ e ∈ as, e.sc C.V C.vd) (hr : InB rs (C.V.f f (as.map (E.den C.V)))) (hpost : ∀ (C' : Ctx) (vs : List E), C.le C' → (∀ e ∈ vs, e.sc C'.V C'.vd) → vs.map (E.den C'.V) = C.V.f f (as.map (E.den C.V)) → ∀ q ∈ post vs, q.1.sc C'.V C'.vd ∧ q.1.tr C'.V = q.2) (hx : (xlets hp f as rs post k).holds Φ C.V) :
    ∃ C' hp' outs, HRel C' hp' w ∧ Kp C w C' w ∧ (∀ e ∈ outs, e.sc C'.V C'.vd) ∧ outs.map (E.den C'.V) = C.V.f f (as.map (E.den C.V)) ∧ (k outs hp').holds Φ C'.V ∧ C'.bl = C.bl ∧ C'.S = C.S ∧ C'.O = C.O ∧ C'.X = C.X ∧ hp'.H = hp.H ∧ hp'.gh.m = hp.gh.m := by
  unfold xlets at hx
  split at hx
  · rename_i outs ho
    obtain ⟨q, hq, rfl, h2, rfl⟩ := lookD_ok ho
    have hd := h.ext.defs q hq
    exact ⟨C, hp, q.outs, h, .refl C w, hd.outs, by rw [← hd.eq, allEq_ok C.V h2], hx, rfl, rfl, rfl, rfl, rfl, rfl⟩
  · cases hc : hp.canN rs.length with
    | false => rw [hc, cond_false] at hx; exact hx.elim
    | true =>
      rw [hc, cond_true, natK_eq, varsK_eq] at hx
      have hx : T.holds Φ (natK (hp.nx + rs.length) fun nx => ksK (post (vars hp.nx rs) ++ hp.gh.k) fun ks => k (vars hp.nx rs) ⟨hp.H, nx, hp.lim, hp.rest, ⟨ks, ⟨f, as, vars hp.nx rs⟩ :: hp.gh.d, hp.gh.m⟩⟩) (C.V.lets f as hp.nx rs.length) := hx
      rw [natK_eq, ksK_eq] at hx
      simp only [Hp.canN, Bool.and_eq_true, List.all_eq_true, Bool.or_eq_true] at hc
      obtain ⟨hc1, hc2⟩ := hc
      have hc1 : hp.nx + rs.length ≤ hp.lim := Nat.le_of_ble_eq_true hc1
      have hfree : ∀ b, hp.nx ≤ b → b < hp.nx + rs.length → C.bl b = none ∧ ¬ C.vd b := fun b h1 h2 => h.free b (.inl ⟨h1, by omega⟩)
      obtain ⟨l, hl⟩ : ∃ l, l = C.V.f f (as.map (E.den C.V)) := ⟨_, rfl⟩
      rw [← hl] at hr
      have hVi : ∀ j n, l[j]? = some n → (C.V.lets f as hp.nx rs.length).i (hp.nx + j) = n := fun j n hj => by
        have hjl : j < l.length := (List.getElem?_eq_some_iff.1 hj).1
        simp only [Env.lets]
        rw [if_pos ⟨by omega, by rw [← hr.1]; omega⟩, ← hl]
        simp [List.getD, hj]
      let C' : Ctx := { C with V := C.V.lets f as hp.nx rs.length, vd := fun i => C.vd i ∨ (hp.nx ≤ i ∧ i < hp.nx + rs.length) }
      have hle : C.le C' := ⟨fun i hi => ⟨.inl hi, by
          show (if hp.nx ≤ i ∧ i < hp.nx + rs.length then _ else C.V.i i) = C.V.i i
          rw [if_neg fun hh => (hfree i hh.1 hh.2).2 hi], rfl, rfl⟩, rfl, rfl, fun b x hb => hb⟩
      have hden : (vars hp.nx rs).map (E.den C'.V) = l := vars_den hr.1 hVi
      have hvsc : ∀ e ∈ vars hp.nx rs, e.sc C'.V C'.vd := fun e he => by
        obtain ⟨j, r, h1, rfl⟩ := vars_get he
        have hj : j < rs.length := (List.getElem?_eq_some_iff.1 h1).1
        obtain ⟨n, hn⟩ : ∃ n, l[j]? = some n := ⟨l[j]'(by rw [hr.1]; exact hj), by simp [hr.1, hj]⟩
        have := hr.2 j r n h1 hn
        refine ⟨.inr ⟨by omega, by omega⟩, ?_⟩
        rw [show C'.V.i (hp.nx + j) = n from hVi j n hn]
        exact this
      have hext : GhOk C'.V C'.vd C'.X C'.bl C'.S hp.gh w := GhOk.le (C := C) (C' := C') h.ext hle h.ext.rel
      have hfacts : ∀ q ∈ post (vars hp.nx rs) ++ hp.gh.k, q.1.sc C'.V C'.vd ∧ q.1.tr C'.V = q.2 := fun q hq => by
        rcases List.mem_append.1 hq with hq | hq
        · exact hpost C' _ hle hvsc (hden.trans hl) q hq
        · exact hext.facts q hq
      refine ⟨C', ⟨hp.H, hp.nx + rs.length, hp.lim, hp.rest, ⟨post (vars hp.nx rs) ++ hp.gh.k, ⟨f, as, vars hp.nx rs⟩ :: hp.gh.d, hp.gh.m⟩⟩, vars hp.nx rs, ⟨⟨fun b blk hb => ?_, h.inj⟩, ⟨hext.rel, hext.msc, hfacts, fun q hq => ?_⟩, h.apart, h.own, fun b hb => ?_, h.blt⟩, ⟨hle, Nat.le_refl _, rfl, rfl, rfl, fun _ _ _ _ => rfl, fun _ h => .inl h, fun _ h => .inl h, fun b _ c h => .inl ⟨b, c, h⟩⟩, hvsc, hden.trans hl, hx, rfl, rfl, rfl, rfl, rfl, rfl⟩
      · obtain ⟨g, c, k1, k2⟩ := h.at_ b blk hb
        exact ⟨g, c, k1, k2.le hle⟩
      · rcases List.mem_cons.1 hq with rfl | hq
        · exact ⟨fun e he => (E.sc_le hle e (hs e he)).1, hvsc, by
            show C.V.f f (as.map (E.den C'.V)) = _
            rw [hden, den_map hle hs, hl]⟩
        · exact hext.defs q hq
      · have hb' : hp.isFree b ∧ ¬ (hp.nx ≤ b ∧ b < hp.nx + rs.length) := by
          rcases hb with ⟨h1, h2⟩ | ⟨r, hr1, h1, h2⟩
          · simp only at h1 h2
            exact ⟨.inl ⟨by omega, h2⟩, by omega⟩
          · refine ⟨.inr ⟨r, hr1, h1, h2⟩, fun hh => ?_⟩
            rcases hc2 r hr1 with hh2 | hh2
            · have := Nat.le_of_ble_eq_true hh2; omega
            · have := Nat.le_of_ble_eq_true hh2; omega
        obtain ⟨k1, k2⟩ := h.free b hb'.1
        exact ⟨k1, fun hv => hv.elim k2 hb'.2⟩
end
end Go.Proofs.YtkogjjeoihnjpaaGreat.Sx
end
section
set_option linter.unusedVariables false
set_option linter.unusedSimpArgs false
namespace Go.Proofs.YtkogjjeoihnjpaaGreat.Sx
open Go Go.RowKit
noncomputable section
/-! ### what a run picks -/
def T.pick {α : Type} : T α → Env → Option (Env × α)
  | .ret a, V => some (V, a)
  | .ite c t e, V => if c.tr V then t.pick V else e.pick V
  | .both _ _, _ => none
  | .lets f as s n t, V => t.pick (V.lets f as s n)
  | .bad _, _ => none
  | .skip, _ => none
/-- one way at most -/
def T.one {α : Type} : T α → Bool
  | .ret _ => true
  | .ite _ t e => bif t.one then e.one else false
  | .both _ _ => false
  | .lets _ _ _ _ t => t.one
  | .bad _ => true
  | .skip => false
theorem T.holds_pick {α : Type} {Φ : Env → α → Prop} : ∀ {t : T α} {V : Env}, t.one = true → t.holds Φ V → t.holds (fun V' a => t.pick V = some (V', a) ∧ Φ V' a) V
  | .ret a, V, h1, h => ⟨rfl, h⟩
  | .ite c t e, V, h1, h => by
    obtain ⟨h2, h3⟩ := and_bif h1
    refine ⟨fun hc => ?_, fun hc => ?_⟩
    · refine T.holds_mono (fun V' a k => ?_) (T.holds_pick h2 (h.1 hc))
      refine ⟨?_, k.2⟩
      show (if c.tr V then t.pick V else e.pick V) = _
      rw [hc, if_pos rfl]; exact k.1
    · refine T.holds_mono (fun V' a k => ?_) (T.holds_pick h3 (h.2 hc))
      refine ⟨?_, k.2⟩
      show (if c.tr V then t.pick V else e.pick V) = _
      rw [hc, if_neg (by decide)]; exact k.1
  | .both t e, V, h1, h => nomatch h1
  | .lets f as s n t, V, h1, h => T.holds_pick (t := t) (V := V.lets f as s n) h1 h
  | .bad _, V, h1, h => h.elim
  | .skip, V, h1, h => nomatch h1
theorem T.picks {α : Type} {Φ : Env → α → Prop} : ∀ {t : T α} {V : Env}, t.one = true → t.holds Φ V → ∃ V' a, t.pick V = some (V', a) ∧ Φ V' a
  | .ret a, V, h1, h => ⟨V, a, rfl, h⟩
  | .ite c t e, V, h1, h => by
    obtain ⟨h2, h3⟩ := and_bif h1
    cases hc : c.tr V with
    | true =>
      obtain ⟨V', a, k1, k2⟩ := T.picks h2 (h.1 hc)
      refine ⟨V', a, ?_, k2⟩
      show (if c.tr V then t.pick V else e.pick V) = _
      rw [hc, if_pos rfl]; exact k1
    | false =>
      obtain ⟨V', a, k1, k2⟩ := T.picks h3 (h.2 hc)
      refine ⟨V', a, ?_, k2⟩
      show (if c.tr V then t.pick V else e.pick V) = _
      rw [hc, if_neg (by decide)]; exact k1
  | .both t e, V, h1, h => nomatch h1
  | .lets f as s n t, V, h1, h => T.picks (t := t) (V := V.lets f as s n) h1 h
  | .bad _, V, h1, h => h.elim
  | .skip, V, h1, h => nomatch h1
/-! ### values as lists of numbers -/
inductive CK where
  | i (k : IntKind)
  | b
  deriving DecidableEq, Inhabited
def ckV : CK → Int → Value
  | .i k, n => .int k n
  | .b, n => .bool (decide (n = 1))
def ckSC : CK → E → SC
  | .i k, e => .int k e
  | .b, e => match e with
    | .ite c (.lit (.ofNat 1)) (.lit (.ofNat 0)) => .bool c
    | e => .bool (.cmp .eql e (.lit (.ofNat 1)))
def ckE : CK → SC → Option E
  | .i k, .int k' e => bif Nat.beq (kdN k) (kdN k') then some e else none
  | .b, .bool e => match e with
    | .tt true => some (.lit (.ofNat 1))
    | .tt false => some (.lit (.ofNat 0))
    | .cmp op x (.lit (.ofNat 1)) => match x with
      | .var (.ofNat 0) (.ofNat 1) i => bif Nat.beq (opN op) 11 then some (.var (.ofNat 0) (.ofNat 1) i) else some (.ite e (.lit (.ofNat 1)) (.lit (.ofNat 0)))
      | _ => some (.ite e (.lit (.ofNat 1)) (.lit (.ofNat 0)))
    | e => some (.ite e (.lit (.ofNat 1)) (.lit (.ofNat 0)))
  | _, _ => none
def ckR : CK → Int × Int
  | .i k => (kLo k, kHi k)
  | .b => (0, 1)
theorem ckSC_rel {C : Ctx} (c : CK) {e : E} (h : e.sc C.V C.vd) : (ckSC c e).rel C (ckV c (e.den C.V)) := by
  cases c with
  | i k => exact ⟨h, rfl⟩
  | b =>
    unfold ckSC
    simp only
    split
    · rename_i c
      refine ⟨h.1, ?_⟩
      rw [den_ite, den_lit, den_lit]
      unfold ckV
      cases hc : c.tr C.V <;> simp
    · refine ⟨⟨h, trivial⟩, ?_⟩
      rw [tr_cmp, den_lit]
      unfold ckV
      congr 1
theorem ckE_ok {C : Ctx} {c : CK} {s : SC} {e : E} {v : Value} (h : ckE c s = some e) (hr : s.rel C v) : e.sc C.V C.vd ∧ v = ckV c (e.den C.V) := by
  have gen : ∀ {e0 : E} {v : Value}, (SC.bool e0).rel C v → (E.ite e0 (.lit (.ofNat 1)) (.lit (.ofNat 0))).sc C.V C.vd ∧ v = ckV .b ((E.ite e0 (.lit (.ofNat 1)) (.lit (.ofNat 0))).den C.V) := fun {e0 v} hr => by
    refine ⟨⟨hr.1, trivial, trivial⟩, ?_⟩
    rw [hr.2, den_ite, den_lit, den_lit]
    unfold ckV
    cases hc : e0.tr C.V <;> simp
  unfold ckE at h
  split at h
  · rename_i k k' e0
    cases hb : Nat.beq (kdN k) (kdN k') with
    | true => rw [hb, cond_true] at h; cases h; rw [kdN_inj hb]; exact hr
    | false => rw [hb, cond_false] at h; cases h
  · split at h
    · cases h; refine ⟨trivial, ?_⟩; rw [hr.2, tr_tt, den_lit]; rfl
    · cases h; refine ⟨trivial, ?_⟩; rw [hr.2, tr_tt, den_lit]; rfl
    · rename_i op x
      split at h
      · rename_i i
        cases hb : Nat.beq (opN op) 11 with
        | true =>
          rw [hb, cond_true] at h
          cases h
          have ho : op = .eql := opN_inj (b := .eql) hb
          subst ho
          refine ⟨hr.1.1, ?_⟩
          rw [hr.2, tr_cmp, den_lit]
          unfold ckV
          congr 1
        | false => rw [hb, cond_false] at h; cases h; exact gen hr
      · cases h; exact gen hr
    · cases h; exact gen hr
  · cases h
inductive Sh where
  | one (c : CK)
  | agg (cs : List CK)
  deriving DecidableEq, Inhabited
def cksV : List CK → List Int → List Value
  | [], _ => []
  | c :: cs, l => ckV c (l.headD 0) :: cksV cs l.tail
def shVs : List Sh → List Int → List Value
  | [], _ => []
  | .one c :: r, l => ckV c (l.headD 0) :: shVs r l.tail
  | .agg cs :: r, l => .agg (cksV cs l).toArray :: shVs r (l.drop cs.length)
def cksSC : List CK → List E → List SC
  | [], _ => []
  | c :: cs, l => ckSC c (l.headD (.lit 0)) :: cksSC cs l.tail
def shSVs : List Sh → List E → List PV
  | [], _ => []
  | .one c :: r, l => .one (ckSC c (l.headD (.lit 0))) :: shSVs r l.tail
  | .agg cs :: r, l => .agg (cksSC cs l) :: shSVs r (l.drop cs.length)
theorem head_den {C : Ctx} {l : List E} (h : ∀ e ∈ l, e.sc C.V C.vd) : (l.headD (.lit 0)).sc C.V C.vd ∧ (l.headD (.lit 0)).den C.V = (l.map (E.den C.V)).headD 0 := by
  cases l with
  | nil => exact ⟨trivial, rfl⟩
  | cons e l => exact ⟨h e List.mem_cons_self, rfl⟩
theorem cksSC_rel {C : Ctx} : ∀ (cs : List CK) {l : List E}, (∀ e ∈ l, e.sc C.V C.vd) → All2 (SC.rel C) (cksSC cs l) (cksV cs (l.map (E.den C.V)))
  | [], l, h => .nil
  | c :: cs, l, h => by
    obtain ⟨h1, h2⟩ := head_den h
    refine .cons ?_ ?_
    · rw [← h2]; exact ckSC_rel c h1
    · rw [show (l.map (E.den C.V)).tail = l.tail.map (E.den C.V) by simp]
      exact cksSC_rel cs fun e he => h e (List.mem_of_mem_tail he)
theorem shSVs_rel {C : Ctx} : ∀ (ss : List Sh) {l : List E}, (∀ e ∈ l, e.sc C.V C.vd) → All2 (PV.rel C) (shSVs ss l) (shVs ss (l.map (E.den C.V)))
  | [], l, h => .nil
  | .one c :: r, l, h => by
    obtain ⟨h1, h2⟩ := head_den h
    refine .cons ?_ ?_
    · show SC.rel C _ _; rw [← h2]; exact ckSC_rel c h1
    · rw [show (l.map (E.den C.V)).tail = l.tail.map (E.den C.V) by simp]
      exact shSVs_rel r fun e he => h e (List.mem_of_mem_tail he)
  | .agg cs :: r, l, h => by
    refine .cons ⟨_, cksSC_rel cs h, rfl⟩ ?_
    rw [show (l.map (E.den C.V)).drop cs.length = (l.drop cs.length).map (E.den C.V) by simp]
    exact shSVs_rel r fun e he => h e (List.mem_of_mem_drop he)
/-- the numbers of arguments -/
def cksE : List CK → List SC → Option (List E)
  | [], [] => some []
  | c :: cs, s :: ss => match ckE c s with
    | some e => match cksE cs ss with
      | some l => some (e :: l)
      | none => none
    | none => none
  | _, _ => none
def shEs : List Sh → List PV → Option (List E)
  | [], [] => some []
  | .one c :: r, .one s :: ps => match ckE c s with
    | some e => match shEs r ps with
      | some l => some (e :: l)
      | none => none
    | none => none
  | .agg cs :: r, .agg ss :: ps => match cksE cs ss with
    | some es => match shEs r ps with
      | some l => some (es ++ l)
      | none => none
    | none => none
  | _, _ => none
theorem cksE_ok {C : Ctx} : ∀ {cs : List CK} {ss : List SC} {es : List E} {vs : List Value}, cksE cs ss = some es → All2 (SC.rel C) ss vs → (∀ e ∈ es, e.sc C.V C.vd) ∧ es.length = cs.length ∧ ∀ l, vs = cksV cs (es.map (E.den C.V) ++ l)
  | [], [], es, vs, h, hv => by cases h; cases hv; exact ⟨(fun _ h => nomatch h), rfl, fun l => rfl⟩
  | c :: cs, s :: ss, es, vs, h, hv => by
    unfold cksE at h
    split at h
    · rename_i e he
      split at h
      · rename_i l hl
        cases h
        cases hv with
        | cons h1 h2 =>
          obtain ⟨k1, rfl⟩ := ckE_ok he h1
          obtain ⟨m1, m2, m3⟩ := cksE_ok hl h2
          refine ⟨fun x hx => ?_, by simp [m2], fun l' => ?_⟩
          · rcases List.mem_cons.1 hx with rfl | hx
            · exact k1
            · exact m1 x hx
          · rw [m3 l']; rfl
      · cases h
    · cases h
  | [], _ :: _, es, vs, h, hv => nomatch h
  | _ :: _, [], es, vs, h, hv => nomatch h
theorem shEs_ok {C : Ctx} : ∀ {ss : List Sh} {ps : List PV} {es : List E} {vs : List Value}, shEs ss ps = some es → All2 (PV.rel C) ps vs → (∀ e ∈ es, e.sc C.V C.vd) ∧ vs = shVs ss (es.map (E.den C.V))
  | [], [], es, vs, h, hv => by cases h; cases hv; exact ⟨(fun _ h => nomatch h), rfl⟩
  | .one c :: r, .one s :: ps, es, vs, h, hv => by
    unfold shEs at h
    split at h
    · rename_i e he
      split at h
      · rename_i l hl
        cases h
        cases hv with
        | cons h1 h2 =>
          obtain ⟨k1, rfl⟩ := ckE_ok he h1
          obtain ⟨m1, m2⟩ := shEs_ok hl h2
          refine ⟨fun x hx => ?_, by rw [m2]; rfl⟩
          rcases List.mem_cons.1 hx with rfl | hx
          · exact k1
          · exact m1 x hx
      · cases h
    · cases h
  | .agg cs :: r, .agg ss :: ps, es, vs, h, hv => by
    unfold shEs at h
    split at h
    · rename_i es0 he
      split at h
      · rename_i l hl
        cases h
        cases hv with
        | cons h1 h2 =>
          obtain ⟨us, hu, rfl⟩ := h1
          obtain ⟨k1, k2, k3⟩ := cksE_ok he hu
          obtain ⟨m1, m2⟩ := shEs_ok hl h2
          refine ⟨fun x hx => ?_, ?_⟩
          · rcases List.mem_append.1 hx with hx | hx
            · exact k1 x hx
            · exact m1 x hx
          · rw [List.map_append, k3 (l.map (E.den C.V)), m2]
            show _ = Value.agg (cksV cs (es0.map (E.den C.V) ++ l.map (E.den C.V))).toArray :: shVs r ((es0.map (E.den C.V) ++ l.map (E.den C.V)).drop cs.length)
            rw [List.drop_left' (by simp [k2])]
      · cases h
    · cases h
  | [], _ :: _, es, vs, h, hv => nomatch h
  | .one _ :: _, [], es, vs, h, hv => nomatch h
  | .agg _ :: _, [], es, vs, h, hv => nomatch h
  | .one _ :: _, .agg _ :: _, es, vs, h, hv => nomatch h
  | .agg _ :: _, .one _ :: _, es, vs, h, hv => nomatch h
/-- what is returned -/
inductive Rs where
  | one (s : Sh)
  | tup (ss : List Sh)
  deriving DecidableEq, Inhabited
def rsV : Rs → List Int → Value
  | .one s, l => (shVs [s] l).headD Go.undef
  | .tup ss, l => .tuple (shVs ss l).toArray
def rsSV : Rs → List E → SV
  | .one (.one c), l => .pv (.one (ckSC c (l.headD (.lit 0))))
  | .one (.agg cs), l => .pv (.agg (cksSC cs l))
  | .tup ss, l => .tup (shSVs ss l)
def rsEs : Rs → SV → Option (List E)
  | .one s, .pv p => shEs [s] [p]
  | .tup ss, .tup ps => shEs ss ps
  | _, _ => none
theorem rsSV_rel {C : Ctx} (r : Rs) {l : List E} (h : ∀ e ∈ l, e.sc C.V C.vd) : (rsSV r l).rel C (rsV r (l.map (E.den C.V))) := by
  cases r with
  | one s =>
    cases s with
    | one c =>
      obtain ⟨h1, h2⟩ := head_den h
      show SC.rel C (ckSC c (l.headD (.lit 0))) (ckV c ((l.map (E.den C.V)).headD 0))
      rw [← h2]; exact ckSC_rel c h1
    | agg cs => exact ⟨_, cksSC_rel cs h, rfl⟩
  | tup ss => exact ⟨_, shSVs_rel ss h, rfl⟩
theorem rsEs_ok {C : Ctx} {r : Rs} {sv : SV} {es : List E} {v : Value} (h : rsEs r sv = some es) (hv : sv.rel C v) : (∀ e ∈ es, e.sc C.V C.vd) ∧ v = rsV r (es.map (E.den C.V)) := by
  unfold rsEs at h
  split at h
  · rename_i s p
    obtain ⟨h1, h2⟩ := shEs_ok h (.cons (show PV.rel C p v from hv) .nil)
    refine ⟨h1, ?_⟩
    show v = (shVs [s] (es.map (E.den C.V))).headD Go.undef
    rw [← h2]; rfl
  · rename_i ss ps
    obtain ⟨vs, hv, rfl⟩ := hv
    obtain ⟨h1, h2⟩ := shEs_ok h hv
    exact ⟨h1, by rw [h2]; rfl⟩
  · cases h
end
end Go.Proofs.YtkogjjeoihnjpaaGreat.Sx
end
