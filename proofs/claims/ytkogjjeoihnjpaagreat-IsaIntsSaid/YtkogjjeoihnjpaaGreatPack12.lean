/- Methods of a machine over a memory, told by functions on numbers and the words that they put; such an answer as a contract. No condition. What a machine's method answers, as a contract of another run. No condition. -/
import Derived.Test.YtkogjjeoihnjpaaGreatPack11
import Derived.Test.YtkogjjeoihnjpaaGreatPack5
section
set_option linter.unusedVariables false
set_option linter.unusedSimpArgs false
namespace Go.Proofs.YtkogjjeoihnjpaaGreat.Sx
open Go Go.RowKit
noncomputable section
/-! ### words put, told by a list of one length -/
def padP : Nat → List E → Option (List E)
  | 0, [] => some []
  | 0, _ => none
  | i + 1, [] => (padP i []).map fun l => .lit (.ofNat 0) :: .lit (.ofNat 0) :: .lit (.ofNat 0) :: l
  | i + 1, x :: k :: v :: r => (padP i r).map fun l => x :: k :: v :: l
  | _ + 1, _ => none
theorem mayErr_00 (n : Nat) : mayErr n (Int.ofNat 0) (Int.ofNat 0) ≠ 0 := by
  intro h
  rcases (mayErr_0 h).1 with h | h | h | h <;> exact absurd h (by decide)
theorem padP_ok {V : Env} {d : Nat → Prop} {n : Nat} {ct : Nat → Nat} : ∀ {i : Nat} {l l' : List E}, padP i l = some l' → (∀ e ∈ l, e.sc V d) → (∀ e ∈ l', e.sc V d) ∧ putsL n ct (l'.map (E.den V)) = putsL n ct (l.map (E.den V)) ∧ l'.length = 3 * i
  | 0, [], l', h, hs => by cases h; exact ⟨hs, rfl, rfl⟩
  | 0, _ :: _, l', h, hs => nomatch h
  | i + 1, [], l', h, hs => by
    simp only [padP, Option.map_eq_some_iff] at h
    obtain ⟨l, h, rfl⟩ := h
    obtain ⟨k1, k2, k3⟩ := padP_ok (n := n) (ct := ct) h hs
    refine ⟨fun e he => ?_, ?_, by simp [k3]; omega⟩
    · rcases List.mem_cons.1 he with rfl | he
      · exact trivial
      rcases List.mem_cons.1 he with rfl | he
      · exact trivial
      rcases List.mem_cons.1 he with rfl | he
      · exact trivial
      · exact k1 e he
    · simp only [List.map_cons, den_lit, putsL]
      rw [if_neg (mayErr_00 n), k2]
  | i + 1, [_], l', h, hs => nomatch h
  | i + 1, [_, _], l', h, hs => nomatch h
  | i + 1, x :: k :: v :: r, l', h, hs => by
    simp only [padP, Option.map_eq_some_iff] at h
    obtain ⟨l, h, rfl⟩ := h
    obtain ⟨k1, k2, k3⟩ := padP_ok (n := n) (ct := ct) h fun e he => hs e (by simp [he])
    refine ⟨fun e he => ?_, ?_, by simp [k3]; omega⟩
    · rcases List.mem_cons.1 he with rfl | he
      · exact hs _ (by simp)
      rcases List.mem_cons.1 he with rfl | he
      · exact hs _ (by simp)
      rcases List.mem_cons.1 he with rfl | he
      · exact hs _ (by simp)
      · exact k1 e he
    · simp only [List.map_cons, putsL, k2]
theorem putsL_append {n : Nat} {ct : Nat → Nat} {r : List Int} : ∀ {i : Nat} {q : List Int}, q.length = 3 * i → putsL n ct (q ++ r) = putsL n (putsL n ct r) q
  | 0, [], _ => by cases r <;> rfl
  | 0, _ :: _, h => by simp at h
  | i + 1, x :: k :: v :: q, h => by
    simp only [List.cons_append, putsL]
    rw [putsL_append (i := i) (by simp at h; omega)]
  | i + 1, [], h => by simp at h
  | i + 1, [_], h => by simp at h; omega
  | i + 1, [_, _], h => by simp at h; omega
/-! ### what is told of such a method -/
/-- a method answers what F says, of its arguments and the memory; behind the answer np words are told that are put -/
def MTells (f : FuncId) (ss : List Sh) (rs : List (Int × Int)) (fk : Ks) (rsh : Rs) (ors : List (Int × Int)) (ok : Ks) (np : Nat) (F : (Nat → Nat) → List Int → List Int) : Prop :=
  ∀ args, InB rs args → KsOk (env0 args) fk → ∀ (w : World) (p b n : Nat) (cs : List Value) (ct : Nat → Nat) (S : Nat → Prop), MachAt w p b cs → (∀ c ∈ cs, c.oneCell' = true) → RamAt w b n ct S → p ≠ b → ¬ S p →
    (InB ors (F ct (args ++ [(n : Int)])) ∧ KsOk (env0 (F ct (args ++ [(n : Int)]) ++ args)) ok) ∧
    Calls Tryz.prog f (.pointer (some ⟨p, 0, none⟩) :: shVs ss args).toArray w fun e w' => e = .returned (rsV rsh (F ct (args ++ [(n : Int)]))) ∧ MachTo w w' b n (putsL n ct ((F ct (args ++ [(n : Int)])).drop (ors.length - 3 * np))) S p ∧ w'.heap[p]? = w.heap[p]?
/-- the answer, and the words put -/
def mouts (rsh : Rs) (np : Nat) (a : SV × Hp) : Option (List E) :=
  match rsEs rsh a.1, a.2.gh.m with
  | some es, _ :: r => (padP np r).map fun l => es ++ l
  | _, _ => none
/-- the machine as it was -/
def rowIs (row : List SC) (hp : Hp) : Bool :=
  match hget hp.H 900 with
  | some (.cells row' T es false) => bif Nat.beq T 94 then listSame scSame row' row else false
  | _ => false
def mrow : List SC := exts 500 66
def mresB (rsh : Rs) (ors rs : List (Int × Int)) (ok : Ks) (np : Nat) (a : SV × Hp) : Bool :=
  match mouts rsh np a with
  | some es => bif inRs a.2.gh.k ors es then (bif holdsB a.2.gh.k (es ++ vars 0 rs) ok then rowIs (mrow ++ [.ext 999]) a.2 else false) else false
  | none => false
def nR : Int × Int := (.ofNat 4, .ofNat 256)
def mrun (orc : Orc) (f0 : FuncId) (ss : List Sh) (rs : List (Int × Int)) (fk : Ks) : XR := xfn Tryz.prog tab.get orc 5000 100 f0 (argsD ss 0 (rs ++ [nR])) (hpM mrow fk rs.length)
def mranB (t : XR) (rsh : Rs) (ors rs : List (Int × Int)) (ok : Ks) (np : Nat) : Bool := bif t.one then t.every (mresB rsh ors rs ok np) else false
def MFof (t : XR) (rsh : Rs) (np : Nat) (ftM : (Nat → Nat) → Ft) (ct : Nat → Nat) (args : List Int) : List Int :=
  match t.pick (envA (ftM ct) args) with
  | some (V', a) => ((mouts rsh np a).getD []).map (E.den V')
  | none => []
theorem inB_snoc {rs : List (Int × Int)} {args : List Int} {r : Int × Int} {x : Int} (h : InB rs args) (h1 : r.1 ≤ x) (h2 : x ≤ r.2) : InB (rs ++ [r]) (args ++ [x]) := by
  refine ⟨by simp [h.1], fun j q m hj hm => ?_⟩
  by_cases hl : j < rs.length
  · rw [List.getElem?_append_left hl] at hj
    rw [List.getElem?_append_left (by rw [h.1]; exact hl)] at hm
    exact h.2 j q m hj hm
  · have hj' : j = rs.length := by
      have := (List.getElem?_eq_some_iff.1 hj).1
      simp at this; omega
    subst hj'
    rw [List.getElem?_append_right (Nat.le_refl _)] at hj
    rw [List.getElem?_append_right (by rw [h.1]; exact Nat.le_refl _)] at hm
    rw [h.1] at hm
    simp at hj hm
    subst hj; subst hm
    exact ⟨h1, h2⟩
theorem scB_snoc {rs : List (Int × Int)} {r : Int × Int} : ∀ {e : E}, scB rs e = true → scB (rs ++ [r]) e = true
  | .lit _, _ => rfl
  | .var lo hi i, h => by
    unfold scB at h ⊢
    split at h
    · rename_i l u hr
      rw [List.getElem?_append_left (List.getElem?_eq_some_iff.1 hr).1, hr]
      exact h
    · cases h
  | .bin _ _ a b, h => by obtain ⟨h1, h2⟩ := and_bif h; unfold scB; rw [scB_snoc h1, scB_snoc h2]; rfl
  | .pl _ a b, h => by obtain ⟨h1, h2⟩ := and_bif h; unfold scB; rw [scB_snoc h1, scB_snoc h2]; rfl
  | .cast _ a, h => scB_snoc (e := a) h
  | .ite c a b, h => by obtain ⟨h1, h2⟩ := and_bif h; obtain ⟨h2, h3⟩ := and_bif h2; unfold scB; rw [scB_snoc h1, scB_snoc h2, scB_snoc h3]; rfl
  | .tt _, _ => rfl
  | .bvar _, h => nomatch h
  | .cmp _ a b, h => by obtain ⟨h1, h2⟩ := and_bif h; unfold scB; rw [scB_snoc h1, scB_snoc h2]; rfl
  | .no a, h => scB_snoc (e := a) h
  | .ix _ _ _, h => nomatch h
/-- facts of more numbers -/
theorem env0_snoc {rs : List (Int × Int)} {args more : List Int} (hl : args.length = rs.length) : ∀ {e : E}, scB rs e = true → e.ev (env0 (args ++ more)) = e.ev (env0 args)
  | .lit _, _ => rfl
  | .var lo hi i, h => by
    unfold scB at h
    split at h
    · rename_i l u hr
      have hi := (List.getElem?_eq_some_iff.1 hr).1
      show ((args ++ more).getD i 0, false) = (args.getD i 0, false)
      rw [List.getD, List.getD, List.getElem?_append_left (by omega)]
    · cases h
  | .bin _ _ a b, h => by obtain ⟨h1, h2⟩ := and_bif h; simp only [E.ev, env0_snoc hl h1, env0_snoc hl h2]
  | .pl _ a b, h => by obtain ⟨h1, h2⟩ := and_bif h; simp only [E.ev, env0_snoc hl h1, env0_snoc hl h2]
  | .cast _ a, h => by simp only [E.ev, env0_snoc (e := a) hl h]
  | .ite c a b, h => by obtain ⟨h1, h2⟩ := and_bif h; obtain ⟨h2, h3⟩ := and_bif h2; simp only [E.ev, env0_snoc hl h1, env0_snoc hl h2, env0_snoc hl h3]
  | .tt _, _ => rfl
  | .bvar _, h => nomatch h
  | .cmp _ a b, h => by obtain ⟨h1, h2⟩ := and_bif h; simp only [E.ev, env0_snoc hl h1, env0_snoc hl h2]
  | .no a, h => by simp only [E.ev, env0_snoc (e := a) hl h]
  | .ix _ _ _, h => nomatch h
def shN : List Sh → Nat
  | [] => 0
  | .one _ :: r => shN r + 1
  | .agg cs :: r => cs.length + shN r
theorem shVs_more' : ∀ (ss : List Sh) (args more : List Int), shN ss ≤ args.length → shVs ss (args ++ more) = shVs ss args
  | [], _, _, _ => rfl
  | .one c :: r, args, more, h => by
    simp only [shN] at h
    match args, h with
    | [], h => simp at h
    | a :: l, h => simp only [shVs, List.cons_append, List.headD_cons, List.tail_cons]; rw [shVs_more' r l more (by simp at h; omega)]
  | .agg cs :: r, args, more, h => by
    simp only [shN] at h
    have hc : ∀ (cs : List CK) (args more : List Int), cs.length ≤ args.length → cksV cs (args ++ more) = cksV cs args := by
      intro cs
      induction cs with
      | nil => intros; rfl
      | cons c cs ih =>
        intro args more h
        match args, h with
        | [], h => simp at h
        | a :: l, h => simp only [cksV, List.cons_append, List.headD_cons, List.tail_cons]; rw [ih l more (by simp at h; omega)]
    simp only [shVs]
    rw [hc cs args more (by omega), List.drop_append_of_le_length (by omega), shVs_more' r _ more (by simp; omega)]
theorem cksE_len : ∀ {cs : List CK} {ss : List SC} {es : List E}, cksE cs ss = some es → es.length = cs.length
  | [], [], es, h => by cases h; rfl
  | c :: cs, s :: ss, es, h => by
    unfold cksE at h
    split at h
    · split at h
      · rename_i l hl; cases h; simp [cksE_len hl]
      · cases h
    · cases h
  | [], _ :: _, es, h => nomatch h
  | _ :: _, [], es, h => nomatch h
theorem shEs_len : ∀ {ss : List Sh} {ps : List PV} {es : List E}, shEs ss ps = some es → es.length = shN ss
  | [], [], es, h => by cases h; rfl
  | .one c :: r, .one s :: ps, es, h => by
    unfold shEs at h
    split at h
    · split at h
      · rename_i l hl; cases h; simp [shN, shEs_len hl]
      · cases h
    · cases h
  | .agg cs :: r, .agg ss :: ps, es, h => by
    unfold shEs at h
    split at h
    · rename_i es0 he
      split at h
      · rename_i l hl; cases h; simp [shN, shEs_len hl, cksE_len he]
      · cases h
    · cases h
  | [], _ :: _, es, h => nomatch h
  | .one _ :: _, [], es, h => nomatch h
  | .agg _ :: _, [], es, h => nomatch h
  | .one _ :: _, .agg _ :: _, es, h => nomatch h
  | .agg _ :: _, .one _ :: _, es, h => nomatch h
def rsN : Rs → Nat
  | .one s => shN [s]
  | .tup ss => shN ss
theorem rsEs_len {r : Rs} {sv : SV} {es : List E} (h : rsEs r sv = some es) : es.length = rsN r := by
  unfold rsEs at h
  split at h
  · exact shEs_len h
  · exact shEs_len h
  · cases h
theorem rsV_more (r : Rs) (l more : List Int) (h : rsN r ≤ l.length) : rsV r (l ++ more) = rsV r l := by
  cases r with
  | one s => show (shVs [s] (l ++ more)).headD Go.undef = (shVs [s] l).headD Go.undef; rw [shVs_more' [s] l more h]
  | tup ss => show Value.tuple (shVs ss (l ++ more)).toArray = Value.tuple (shVs ss l).toArray; rw [shVs_more' ss l more h]
theorem ext_same {C : Ctx} : ∀ {row : List SC} {us vs : List Value}, (∀ c ∈ row, ∃ i, c = .ext i) → All2 (SC.rel C) row us → All2 (SC.rel C) row vs → us = vs
  | [], _, _, _, .nil, .nil => rfl
  | c :: row, _, _, hr, .cons h1 h2, .cons k1 k2 => by
    obtain ⟨i, rfl⟩ := hr c List.mem_cons_self
    rw [ext_same (fun c hc => hr c (List.mem_cons_of_mem _ hc)) h2 k2, h1.2.1, k1.2.1]
theorem exts_all : ∀ (i n : Nat), ∀ c ∈ exts i n, ∃ j, c = .ext j
  | _, 0, c, h => nomatch h
  | i, n + 1, c, h => by
    rcases List.mem_cons.1 h with rfl | h
    · exact ⟨i, rfl⟩
    · exact exts_all (i + 1) n c h
theorem exts_ok : ∀ (i n : Nat), (exts i n).all SC.ok = true
  | _, 0 => rfl
  | i, n + 1 => by simp only [exts, List.all_cons, exts_ok (i + 1) n]; rfl
theorem mtells_of_run {ftM : (Nat → Nat) → Ft} {orc : Orc} {f0 : FuncId} {ss : List Sh} {rs : List (Int × Int)} {fk ok : Ks} {rsh : Rs} {ors : List (Int × Int)} {np : Nat} (ho : ∀ b n ct, OrcOk Tryz.prog (ramX b n ct (pxM b)) (ftM ct) orc) (hl : rs.length ≤ 400) (hf : fk.all (fun q => scB rs q.1) = true) (hss : shN ss ≤ rs.length)
    (hso : ok.all (fun q => scTy (ors ++ rs) true q.1) = true) (h : mranB (mrun orc f0 ss rs fk) rsh ors rs ok np = true) : MTells f0 ss rs fk rsh ors ok np (MFof (mrun orc f0 ss rs fk) rsh np ftM) := by
  obtain ⟨h1, h2⟩ := and_bif h
  intro args hi hk w p b n cs ct S hm hone hr hpb hpS
  obtain ⟨hn4, hn256⟩ : 4 ≤ n ∧ n ≤ 256 := by obtain ⟨m, pg, hh, _⟩ := hr; exact ⟨hh.lo, hh.hi⟩
  have hi' : InB (rs ++ [nR]) (args ++ [(n : Int)]) := inB_snoc hi (show (4 : Int) ≤ n by omega) (show (n : Int) ≤ 256 by omega)
  have hf' : fk.all (fun q => scB (rs ++ [nR]) q.1) = true := List.all_eq_true.2 fun q hq => scB_snoc (List.all_eq_true.1 hf q hq)
  have hk' : KsOk (env0 (args ++ [(n : Int)])) fk := fun q hq => by
    have := hk q hq
    unfold E.tr at *
    rw [env0_snoc hi.1 (List.all_eq_true.1 hf q hq)]; exact this
  have hl' : (rs ++ [nR]).length ≤ 500 := by simp; omega
  have hnk : (rs ++ [nR])[rs.length]? = some (.ofNat 4, .ofNat 256) := by rw [List.getElem?_append_right (Nat.le_refl _)]; simp [nR]
  have hkn : (args ++ [(n : Int)]).getD rs.length 0 = n := by rw [List.getD, List.getElem?_append_right (by rw [hi.1]; exact Nat.le_refl _)]; simp [hi.1]
  have hrow : All2 (SC.rel (ctxM (ftM ct) (args ++ [(n : Int)]) b n p ct cs S)) mrow cs := by
    have := exts_rel (C := ctxM (ftM ct) (args ++ [(n : Int)]) b n p ct cs S) (cs := cs) (i := 500) fun j c hj => by
      have hjl : j < cs.length := (List.getElem?_eq_some_iff.1 hj).1
      have := hm.1
      refine ⟨?_, show 500 + j < 1000 by omega, hone c (List.mem_of_getElem? hj)⟩
      show xM b cs (500 + j) = c
      unfold xM
      rw [if_neg (by omega), show 500 + j - 500 = j by omega, List.getD, hj]; rfl
    rw [hm.1] at this
    exact this
  have HR := hrelM (ft := ftM ct) (mrow := mrow) (fk := fk) hi' hl' hf' hk' hnk hkn hm hrow (exts_ok 500 66) hr hpb hpS
  have hvs := varsM_sc (ft := ftM ct) (b := b) (n := n) (p := p) (ct := ct) (cs := cs) (S := S) hi' hl'
  have CALL := xfn_ok (X := ramX b n ct (pxM b)) (ft := ftM ct) tab_ok (ho b n ct) mixed 5000 100 f0 (argsD ss 0 (rs ++ [nR])) (hpM mrow fk rs.length) _ w _ ctxM_is HR (argsM_rel hi' hl')
    (fun V' a => (mrun orc f0 ss rs fk).pick (ctxM (ftM ct) (args ++ [(n : Int)]) b n p ct cs S).V = some (V', a) ∧ mresB rsh ors rs ok np a = true) (T.holds_pick h1 (T.every_holds h2))
  rw [List.drop_zero, shVs_more' ss args _ (by rw [hi.1]; exact hss)] at CALL
  have told : ∀ {e : Ending} {w' : World}, (∃ C' v sv hp', e = .returned v ∧ sv.rel C' v ∧ HRel C' hp' w' ∧ Kp (ctxM (ftM ct) (args ++ [(n : Int)]) b n p ct cs S) w C' w' ∧ (mrun orc f0 ss rs fk).pick (ctxM (ftM ct) (args ++ [(n : Int)]) b n p ct cs S).V = some (C'.V, (sv, hp')) ∧ mresB rsh ors rs ok np (sv, hp') = true) →
      (InB ors (MFof (mrun orc f0 ss rs fk) rsh np ftM ct (args ++ [(n : Int)])) ∧ KsOk (env0 (MFof (mrun orc f0 ss rs fk) rsh np ftM ct (args ++ [(n : Int)]) ++ args)) ok) ∧
      (e = .returned (rsV rsh (MFof (mrun orc f0 ss rs fk) rsh np ftM ct (args ++ [(n : Int)]))) ∧ MachTo w w' b n (putsL n ct ((MFof (mrun orc f0 ss rs fk) rsh np ftM ct (args ++ [(n : Int)])).drop (ors.length - 3 * np))) S p ∧ w'.heap[p]? = w.heap[p]?) := by
    rintro e w' ⟨C', v, sv, hp', rfl, hrel, hH, hK, hpick, hb⟩
    unfold mresB at hb
    split at hb
    · rename_i es hes
      obtain ⟨hb1, hb⟩ := and_bif hb
      obtain ⟨hb2, hb3⟩ := and_bif hb
      have hF : MFof (mrun orc f0 ss rs fk) rsh np ftM ct (args ++ [(n : Int)]) = es.map (E.den C'.V) := by
        obtain ⟨W', k1, k2⟩ := T.pick_sim (envX_sim (ftM ct) (args ++ [(n : Int)]) (xM b cs)) hpick
        unfold MFof; rw [k1]; simp only [hes, Option.getD_some, k2.den]
      unfold mouts at hes
      split at hes
      · rename_i es0 e0 r hes0 hmem
        obtain ⟨l, hl0, rfl⟩ := Option.map_eq_some_iff.1 hes
        simp only at hes0 hmem
        obtain ⟨m1, rfl⟩ := rsEs_ok hes0 hrel
        have hlen0 := rsEs_len hes0
        have hC' := ctxM_is (ft := ftM ct) (args := args ++ [(n : Int)]) (b := b) (n := n) (p := p) (ct := ct) (cs := cs) (S := S) |>.le hK.le
        obtain ⟨g1, g2, g3, S2, g4, g5⟩ := gh_mem hC' hH hmem
        obtain ⟨l1, l2, l3⟩ := padP_ok (n := n) (ct := ct) hl0 g2
        have hsc : ∀ e ∈ es0 ++ l, e.sc C'.V C'.vd := fun e he => by
          rcases List.mem_append.1 he with he | he
          · exact m1 e he
          · exact l1 e he
        have hin := inRs_ok hH.ks hb1 hsc
        have hv2 : ∀ e ∈ vars 0 rs, e.sc (ctxM (ftM ct) (args ++ [(n : Int)]) b n p ct cs S).V (ctxM (ftM ct) (args ++ [(n : Int)]) b n p ct cs S).vd := fun e he => by
          obtain ⟨j, r, q1, rfl⟩ := vars_get he
          have hj : j < rs.length := (List.getElem?_eq_some_iff.1 q1).1
          have := inB_get hi' (i := j) (r := r) (by rw [List.getElem?_append_left hj]; exact q1)
          simp only [Nat.zero_add]
          exact ⟨show j < 1000 by omega, this.1, this.2⟩
        have hva : (vars 0 rs).map (E.den C'.V) = args := by
          refine (den_map (C := ctxM (ftM ct) (args ++ [(n : Int)]) b n p ct cs S) hK.le hv2).trans (vars_den hi.1 fun j m hj => ?_)
          show (args ++ [(n : Int)]).getD (0 + j) 0 = m
          rw [Nat.zero_add, List.getD, List.getElem?_append_left (List.getElem?_eq_some_iff.1 hj).1, hj]; rfl
        have hv3 : ∀ e ∈ vars 0 rs, e.sc C'.V C'.vd := fun e he => (E.sc_le hK.le e (hv2 e he)).1
        have hlv : (vars 0 rs).length = rs.length := by
          have := congrArg List.length hva
          simp only [List.length_map] at this
          rw [this]; exact hi.1
        have hle : (es0 ++ l).length = ors.length := by have := hin.1; simpa using this
        have hks := holdsB_ok (d := C'.vd) (rs := ors ++ rs) hH.ks (σ := es0 ++ l ++ vars 0 rs) (fun e he => by
          rcases List.mem_append.1 he with he | he
          · exact hsc e he
          · exact hv3 e he) (by have := hle; simp only [List.length_append] at *; omega) hso hb2
        rw [List.map_append, hva] at hks
        rw [hF]
        refine ⟨⟨hin, hks⟩, ?_, ⟨S2, ?_, ⟨hK.os, hK.tape, hK.output, hK.size, fun g hg hn => ?_⟩, fun g hg => ?_⟩, ?_⟩
        · rw [List.map_append, rsV_more rsh _ _ (by rw [List.length_map, hlen0]; exact Nat.le_refl _)]
        · rw [List.map_append, List.drop_left' (by rw [List.length_map]; rw [List.length_append] at hle; omega), l2]
          exact g4
        · exact hK.keep g hg (fun ho => hn (.inl ho)) (fun hs => hn (.inr hs))
        · rcases hK.newS g ((g5 g).2 (.inr hg)) with h0 | h0
          · rcases h0 with rfl | h0
            · exact absurd hg g4.self.1
            · exact .inl h0
          · exact .inr h0
        · unfold rowIs at hb3
          split at hb3
          · rename_i row' T es' hget
            obtain ⟨q1, q2⟩ := and_bif hb3
            have q1 : T = 94 := Nat.eq_of_beq_eq_true q1
            have q2 : row' = mrow ++ [.ext 999] := listSame_ok (fun _ _ => scSame_ok) q2
            subst q1 q2
            obtain ⟨g, c, k1, vs, sp, k2, k3, k4, _⟩ := hH.at_ 900 _ hget
            have k5 := hK.le.bl 900 (p, 1) (by simp [ctxM])
            rw [k1] at k5; cases k5
            have hrow2 : All2 (SC.rel C') (mrow ++ [.ext 999]) (cs ++ [Value.pointer (some ⟨b, 0, none⟩)]) := by
              refine (hrow.mono fun _ _ => SC.rel.le hK.le _ _).append (.cons ?_ .nil)
              refine SC.rel.le hK.le _ _ ⟨show 999 < 1000 by omega, ?_, rfl⟩
              show _ = xM b cs 999
              unfold xM; rw [if_pos rfl]
            have hvs' := ext_same (fun c hc => by
              rcases List.mem_append.1 hc with hc | hc
              · exact exts_all 500 66 c hc
              · exact ⟨999, List.mem_singleton.1 hc⟩) k2 hrow2
            rw [k3, k4 rfl, List.append_nil, hvs', hm.2]
          · cases hb3
      · cases hes
    · cases hb
  obtain ⟨e1, w1, hh⟩ := calls_some CALL
  exact ⟨(told hh).1, CALL.mono fun e w' h => (told h).2⟩
end
end Go.Proofs.YtkogjjeoihnjpaaGreat.Sx
end
section
set_option linter.unusedVariables false
set_option linter.unusedSimpArgs false
namespace Go.Proofs.YtkogjjeoihnjpaaGreat.Sx
open Go Go.RowKit
noncomputable section
def spineE {β : Type} : List E → (List E → β) → β
  | [], k => k []
  | e :: r, k => spineE r fun r => k (e :: r)
theorem spineE_eq {β : Type} : ∀ (l : List E) (k : List E → β), spineE l k = k l
  | [], k => rfl
  | e :: r, k => by rw [spineE, spineE_eq]
/-- of the arguments, the pages, and the words put -/
def mF (F : (Nat → Nat) → List Int → List Int) (len : Nat) (ct : Nat → Nat) (l : List Int) : List Int :=
  F (putsL (l.getD len 0).toNat ct (l.drop (len + 1))) (l.take (len + 1))
def mtellOrc (f0 : FuncId) (i r0 : Nat) (ss : List Sh) (rs : List (Int × Int)) (fk : Ks) (rsh : Rs) (ors : List (Int × Int)) (ok : Ks) (np : Nat) : Orc := fun f args hp =>
  bif Nat.beq f f0 then
    match args with
    | p :: rest => bif machRow hp r0 p then (match asPVs' rest with
      | some ps => match shEs ss ps with
        | some es => match hp.gh.m with
          | e0 :: r => bif inRs hp.gh.k rs es then (bif holdsB hp.gh.k es fk then some (xlets hp i (es ++ e0 :: r) ors (fun vs => sbK (vs ++ es) ok) fun vs hp => svK (rsSV rsh vs) fun v => spineE (vs.drop (ors.length - 3 * np) ++ r) fun q => .ret (v, hp.mem (e0 :: q))) else some (.bad "what must be known")) else some (.bad "bounds of arguments")
          | _ => some (.bad "memory")
        | none => some (.bad "form of arguments")
      | none => some (.bad "arguments")) else some (.bad "which machine")
    | _ => some (.bad "arguments")
  else none
theorem mtellOrc_ok {b n : Nat} {ct : Nat → Nat} {px : Nat → Option Value} {r0 : Nat} {ft : Ft} {f0 : FuncId} {i : Nat} {ss : List Sh} {rs : List (Int × Int)} {fk ok : Ks} {rsh : Rs} {ors : List (Int × Int)} {np : Nat} {F : (Nat → Nat) → List Int → List Int}
    (hp0 : px r0 = some (.pointer (some ⟨b, 0, none⟩))) (hsf : fk.all (fun q => scTy rs true q.1) = true) (hso : ok.all (fun q => scTy (ors ++ rs) true q.1) = true) (hnp : 3 * np ≤ ors.length) (ht : MTells f0 ss rs fk rsh ors ok np F) (hft : ft i = mF F rs.length ct) :
    OrcOk Tryz.prog (ramX b n ct px) ft (mtellOrc f0 i r0 ss rs fk rsh ors ok np) := by
  intro f args hp t h0 C w vs hC h hv
  unfold mtellOrc at h0
  cases hb : Nat.beq f f0 with
  | false => rw [hb, cond_false] at h0; cases h0
  | true =>
    rw [hb, cond_true] at h0
    have hff : f = f0 := Nat.eq_of_beq_eq_true hb
    subst hff
    split at h0
    · rename_i p rest
      cases hmr : machRow hp r0 p with
      | false => rw [hmr, cond_false] at h0; cases h0; exact CallOk.bad
      | true =>
      rw [hmr, cond_true] at h0
      split at h0
      · rename_i ps hps
        split at h0
        · rename_i es hes
          split at h0
          · rename_i e0 r hm
            cases hin : inRs hp.gh.k rs es with
            | false => rw [hin, cond_false] at h0; cases h0; exact CallOk.bad
            | true =>
            rw [hin, cond_true] at h0
            cases hpre : holdsB hp.gh.k es fk with
            | false => rw [hpre, cond_false] at h0; cases h0; exact CallOk.bad
            | true =>
            rw [hpre, cond_true] at h0
            cases h0
            cases hv with
            | @cons _ v1 _ vs1 q1 q2 =>
            obtain ⟨g, q, c, cs, rfl, hg, hmach, hone, hnS⟩ := machRow_ok hC hp0 h hmr q1
            obtain ⟨m1, m2⟩ := shEs_ok hes (asPVs'_ok hps q2)
            obtain ⟨g1, g2, g3, S, g4, g5⟩ := gh_mem hC h hm
            have hI := inRs_ok h.ks hin m1
            have hlen : es.length = rs.length := by have := hI.1; simpa using this
            have hK := holdsB_ok h.ks m1 hlen hsf hpre
            have hgb : g ≠ b := fun e => hnS ((g5 g).2 (.inl e))
            have hgS : ¬ S g := fun e => hnS ((g5 g).2 (.inr e))
            intro Φ hx
            obtain ⟨⟨k1, k3⟩, k2⟩ := ht (es.map (E.den C.V)) hI hK w g b n cs (putsL n ct (r.map (E.den C.V))) S hmach hone g4 hgb hgS
            have hFe : C.V.f i ((es ++ e0 :: r).map (E.den C.V)) = F (putsL n ct (r.map (E.den C.V))) (es.map (E.den C.V) ++ [(n : Int)]) := by
              rw [hC.1, hft, List.map_append, List.map_cons, g1]
              have hl2 : (es.map (E.den C.V)).length = rs.length := by simpa using hlen
              unfold mF
              rw [List.getD, List.getElem?_append_right (by omega), hl2, Nat.sub_self, List.getElem?_cons_zero, Option.getD_some, Int.toNat_natCast]
              rw [show es.map (E.den C.V) ++ (n : Int) :: r.map (E.den C.V) = (es.map (E.den C.V) ++ [(n : Int)]) ++ r.map (E.den C.V) by simp]
              rw [List.drop_left' (by simp [hl2]), List.take_left' (by simp [hl2])]
            generalize hFv : F (putsL n ct (r.map (E.den C.V))) (es.map (E.den C.V) ++ [(n : Int)]) = Fv at *
            obtain ⟨C', hp', outs, n1, n2, n3, n4, n5, n6, n7, n8, n9, n10, n11⟩ := xlets_ok h (fun e he => by
              rcases List.mem_append.1 he with he | he
              · exact m1 e he
              rcases List.mem_cons.1 he with rfl | he
              · exact g3
              · exact g2 e he) (by rw [hFe]; exact k1) (fun C1 vs1 hle1 hs1 hd1 => sbK_ok (rs := ors ++ rs) (fun e he => by
              rcases List.mem_append.1 he with he | he
              · exact hs1 e he
              · exact (E.sc_le hle1 e (m1 e he)).1) (by
              have e1 := congrArg List.length hd1
              rw [hFe] at e1
              have e2 := k1.1
              simp only [List.length_map] at e1
              simp only [List.length_append]
              omega) hso (by rw [List.map_append, hd1, hFe, den_map hle1 m1]; exact k3)) hx
            rw [hFe] at n4
            rw [svK_eq, spineE_eq] at n5
            have hol : outs.length = ors.length := by
              have e1 := congrArg List.length n4
              have e2 := k1.1
              simp only [List.length_map] at e1
              omega
            have hle := n2.le
            have hC'is := hC.le hle
            have hd : ∀ {y : E}, y.sc C.V C.vd → y.sc C'.V C'.vd ∧ y.den C'.V = y.den C.V := fun {y} hy => by
              obtain ⟨k1, k2⟩ := E.sc_le hle y hy
              exact ⟨k1, by unfold E.den; rw [k2]⟩
            rw [m2]
            refine k2.mono ?_
            rintro e w' ⟨rfl, ⟨S', t1, t2, t3⟩, t4⟩
            obtain ⟨C'', u1, u2, u3, u4⟩ := HRel.memTo (n := n) hC'is n1 (m := e0 :: (outs.drop (ors.length - 3 * np) ++ r)) (r := Fv.drop (ors.length - 3 * np) ++ r.map (E.den C.V)) (S' := S') (fun e he => by
              rcases List.mem_cons.1 he with rfl | he
              · exact (hd g3).1
              rcases List.mem_append.1 he with he | he
              · exact n3 e (List.mem_of_mem_drop he)
              · exact (hd (g2 e he)).1) (by rw [List.map_cons, (hd g3).2, g1, List.map_append, List.map_drop, n4, den_map hle g2])
              (by rw [putsL_append (i := np) (by rw [List.length_drop, k1.1]; omega)]; exact t1) t2.size t2.tape t2.os t2.output
              (fun g' hg' hs => by
                rw [n7] at hs
                by_cases e1 : g' = g
                · rw [e1]; exact t4
                · refine t2.block g' hg' ?_
                  rintro (e2 | e2 | e2)
                  · exact e1 e2
                  · exact hs ((g5 g').2 (.inl e2))
                  · exact hs ((g5 g').2 (.inr e2)))
              (fun g' hg' => by
                rw [n7]
                rcases t3 g' hg' with e1 | e1
                · exact .inl ((g5 g').2 (.inr e1))
                · exact .inr e1)
              (by rw [n7]; exact (g5 b).2 (.inl rfl))
            refine ⟨C'', _, _, _, rfl, SV.rel.le u2.le ?_, u1, n2.trans u2, by rw [u3]; exact n5⟩
            rw [← n4]
            exact rsSV_rel rsh n3
          · cases h0; exact CallOk.bad
        · cases h0; exact CallOk.bad
      · cases h0; exact CallOk.bad
    · cases h0; exact CallOk.bad
end
end Go.Proofs.YtkogjjeoihnjpaaGreat.Sx
end
