/- A machine's step in which no interrupt is taken: what it answers as a function on numbers, the cause of a trap below 2^63. No condition. A machine's step over memories made in a run, where no interrupt is taken: its record; all else that was known of memory is forgotten. No condition. -/
import Derived.Test.YtkogjjeoihnjpaaGreatPack49
import Derived.Test.YtkogjjeoihnjpaaGreatPack35
import Derived.KernelRfl
import Derived.Test.YtkogjjeoihnjpaaGreatPack47
section
set_option linter.unusedVariables false
set_option linter.unusedSimpArgs false
namespace Go.Proofs.YtkogjjeoihnjpaaGreat.Sx
open Go Go.RowKit
set_option maxRecDepth 100000
noncomputable section
def loiF (ct : Nat → Nat) (args : List Int) : List Int :=
  match loiT.pick (envA (ftS ct) args) with
  | some (V', a) => ((rsEs (.one (.agg recC)) a.1).getD []).map (E.den V')
  | none => []
theorem HRel.withD {C : Ctx} {hp : Hp} {w : World} (h : HRel C hp w) {d : List Df} (hd : ∀ q ∈ d, q.ok C.V C.vd) : HRel C { hp with gh := ⟨hp.gh.k, d, hp.gh.m⟩ } w :=
  ⟨h.toHCore, ⟨h.ext.rel, h.ext.msc, h.ext.facts, hd⟩, h.apart, h.own, h.free, h.blt⟩
theorem loi_scB : loiK.all (fun q => scB loiRs q.1) = true := by kernel_rfl
theorem loi_told {h ev : List Int} (hh : InB hartR h) (he : InB envR ev) (hk : KsOk (env0 h) mayK) {w : World} {p b n : Nat} {ct : Nat → Nat} {S : Nat → Prop} (hm : MachAt w p b (cksV hartC h)) (hr : RamAt w b n ct S) (hpb : p ≠ b) (hpS : ¬ S p) {c : Int} (hsel : selF (h ++ ev) = [c, 0]) (hc0 : 0 ≤ c) (hc1 : c ≤ 18446744073709551615) :
    InB recL (loiF ct (h ++ ev ++ [(n : Int)] ++ [c, 0])) ∧
    Calls Tryz.prog 16 #[.pointer (some ⟨p, 0, none⟩), .agg (cksV envC ev).toArray] w fun e w' => e = .returned (.agg (cksV recC (loiF ct (h ++ ev ++ [(n : Int)] ++ [c, 0]))).toArray) ∧
      w.heap.size ≤ w'.heap.size ∧ w'.tape = w.tape ∧ w'.os = w.os ∧ w'.output = w.output ∧ ∀ g, g < w.heap.size → g ≠ p → g ≠ b → ¬ S g → w'.heap[g]? = w.heap[g]? := by
  obtain ⟨hn4, hn256⟩ : 4 ≤ n ∧ n ≤ 256 := by obtain ⟨m, pg, hh, _⟩ := hr; exact ⟨hh.lo, hh.hi⟩
  have hi : InB stpRs (h ++ ev) := inB_append hh he
  have hi1 : InB (stpRs ++ [nR]) (h ++ ev ++ [(n : Int)]) := inB_snoc hi (show (4 : Int) ≤ n by omega) (show (n : Int) ≤ 256 by omega)
  have hi' : InB loiRs (h ++ ev ++ [(n : Int)] ++ [c, 0]) := inB_append hi1 ⟨rfl, fun j q m hj hm => by
    match j with
    | 0 => cases hj; cases hm; exact ⟨hc0, hc1⟩
    | 1 => cases hj; cases hm; exact ⟨Int.le_refl _, show (0 : Int) ≤ 1 by omega⟩
    | j + 2 => simp at hj⟩
  generalize hA : h ++ ev ++ [(n : Int)] ++ [c, 0] = A at *
  have hl66 : h.length = 66 := hh.1
  have hl76 : (h ++ ev).length = 76 := hi.1
  have hA0 : A = h ++ (ev ++ ([(n : Int)] ++ [c, 0])) := by rw [← hA, List.append_assoc, List.append_assoc]
  have hA1 : A = (h ++ ev) ++ ([(n : Int)] ++ [c, 0]) := by rw [← hA, List.append_assoc]
  have hn : A.getD 76 0 = n := by rw [hA1, List.getD, List.getElem?_append_right (by omega), hl76]; rfl
  have hc : A.getD 77 0 = c := by rw [hA1, List.getD, List.getElem?_append_right (by omega), hl76]; rfl
  have ho : A.getD 78 0 = 0 := by rw [hA1, List.getD, List.getElem?_append_right (by omega), hl76]; rfl
  have hk' : KsOk (env0 A) loiK := fun q hq => by
    rcases List.mem_append.1 hq with hq | hq
    · have := hk q hq
      unfold E.tr at *
      rw [hA0, env0_snoc hh.1 (List.all_eq_true.1 stp_scB q hq)]; exact this
    · rw [List.mem_singleton.1 hq]
      show (E.cmp .eql _ _).tr _ = false
      rw [tr_cmp, den_var, den_lit]
      show ((env0 A).i 78 == 1) = false
      rw [show (env0 A).i 78 = A.getD 78 0 from rfl, ho]; rfl
  have hl' : loiRs.length ≤ 500 := by decide +kernel
  have hnk : loiRs[76]? = some (.ofNat 4, .ofNat 256) := rfl
  have hvs := varsM_sc (ft := ftS ct) (b := b) (n := n) (p := p) (ct := ct) (cs := cksV hartC h) (S := S) hi' hl'
  have hsub : ∀ e ∈ vars 0 stpRs, e ∈ vars 0 loiRs := fun e he => by
    unfold loiRs
    rw [vars_snoc, vars_snoc]
    exact List.mem_append_left _ (List.mem_append_left _ he)
  have hsubh : ∀ e ∈ vars 0 hartR, e ∈ vars 0 loiRs := fun e he => hsub e (by
    unfold stpRs
    rw [vars_snoc]
    exact List.mem_append_left _ he)
  have hvh : (vars 0 hartR).map (E.den (ctxM (ftS ct) A b n p ct (cksV hartC h) S).V) = h := vars_den hh.1 fun j m hj => by
    show A.getD (0 + j) 0 = m
    have hjl := (List.getElem?_eq_some_iff.1 hj).1
    rw [Nat.zero_add, List.getD, hA0, List.getElem?_append_left hjl, hj]; rfl
  have hva : (vars 0 stpRs).map (E.den (ctxM (ftS ct) A b n p ct (cksV hartC h) S).V) = h ++ ev := vars_den hi.1 fun j m hj => by
    show A.getD (0 + j) 0 = m
    have hjl := (List.getElem?_eq_some_iff.1 hj).1
    rw [Nat.zero_add, List.getD, hA1, List.getElem?_append_left hjl, hj]; rfl
  have hrowr : All2 (SC.rel (ctxM (ftS ct) A b n p ct (cksV hartC h) S)) hrow (cksV hartC h) := by
    have := cksSC_rel (C := ctxM (ftS ct) A b n p ct (cksV hartC h) S) hartC (l := vars 0 hartR) fun e he => hvs e (hsubh e he)
    rw [hvh] at this
    exact this
  have HR0 := hrelM (ft := ftS ct) (mrow := hrow) (fk := loiK) (k := 76) hi' hl' loi_scB hk' hnk hn hm hrowr hrow_ok hr hpb hpS
  have HR := HR0.withD (d := [loiD]) fun q hq => by
    rw [List.mem_singleton.1 hq]
    refine ⟨fun e he => hvs e (hsub e he), fun e he => ?_, ?_⟩
    · have r77 := inB_get hi' (i := 77) (r := U) rfl
      have r78 := inB_get hi' (i := 78) (r := BB) rfl
      simp only [loiD, List.mem_cons, List.not_mem_nil, or_false] at he
      rcases he with rfl | rfl
      · exact ⟨show 77 < 1000 by omega, r77.1, r77.2⟩
      · exact ⟨show 78 < 1000 by omega, r78.1, r78.2⟩
    · show ftS ct 11 ((vars 0 stpRs).map _) = [A.getD 77 0, A.getD 78 0]
      rw [hva, hc, ho]
      show (ftS ct 11) (h ++ ev) = _
      rw [show ftS ct 11 = selF by simp [ftS]]; exact hsel
  have CALL := xfn_ok (X := ramX b n ct (pxM b)) (ft := ftS ct) tab_ok (stpOrcs_ok b n ct) mixed 5000 100 16 (argsD [.agg envC] 66 loiRs) (hpL hrow loiK 76 [loiD]) _ w _ ctxM_is HR (argsM_rel hi' hl')
    (fun V' a => loiT.pick (ctxM (ftS ct) A b n p ct (cksV hartC h) S).V = some (V', a) ∧ loiB a = true) (T.holds_pick loi_one (T.every_holds loi_res))
  have hargs : shVs [.agg envC] (A.drop 66) = [.agg (cksV envC ev).toArray] := by
    rw [hA0, List.drop_left' hl66]
    simp only [shVs]
    rw [cksV_more _ _ _ (by rw [he.1]; decide)]
  rw [hargs] at CALL
  have told : ∀ {e : Ending} {w' : World}, (∃ C' v sv hp', e = .returned v ∧ sv.rel C' v ∧ HRel C' hp' w' ∧ Kp (ctxM (ftS ct) A b n p ct (cksV hartC h) S) w C' w' ∧ loiT.pick (ctxM (ftS ct) A b n p ct (cksV hartC h) S).V = some (C'.V, (sv, hp')) ∧ loiB (sv, hp') = true) →
      InB recL (loiF ct A) ∧ (e = .returned (.agg (cksV recC (loiF ct A)).toArray) ∧ w.heap.size ≤ w'.heap.size ∧ w'.tape = w.tape ∧ w'.os = w.os ∧ w'.output = w.output ∧ ∀ g, g < w.heap.size → g ≠ p → g ≠ b → ¬ S g → w'.heap[g]? = w.heap[g]?) := by
    rintro e w' ⟨C', v, sv, hp', rfl, hrel, hH, hK, hpick, hb⟩
    unfold loiB at hb
    split at hb
    · rename_i es hes
      obtain ⟨m1, rfl⟩ := rsEs_ok hes hrel
      have hF : loiF ct A = es.map (E.den C'.V) := by
        obtain ⟨W', k1, k2⟩ := T.pick_sim (envX_sim (ftS ct) A (xM b (cksV hartC h))) hpick
        unfold loiF; rw [k1]; simp only [hes, Option.getD_some, k2.den]
      rw [hF]
      refine ⟨inRs_ok hH.ks hb m1, rfl, hK.size, hK.tape, hK.os, hK.output, fun g hg h1 h2 h3 => hK.keep g hg h1 ?_⟩
      rintro (e | e)
      · exact h2 e
      · exact h3 e
    · cases hb
  obtain ⟨e1, w1, hh1⟩ := calls_some CALL
  exact ⟨(told hh1).1, CALL.mono fun e w' h => (told h).2⟩
end
end Go.Proofs.YtkogjjeoihnjpaaGreat.Sx
end
section
set_option linter.unusedVariables false
set_option linter.unusedSimpArgs false
namespace Go.Proofs.YtkogjjeoihnjpaaGreat.Sx
open Go Go.RowKit
set_option maxRecDepth 100000
noncomputable section
def loiG (l : List Int) : List Int := loiF (putsW (l.drop 79)) (l.take 79)
/-- the hart in the block, its memory -/
def machB (hp : Hp) (q : Nat) : Option (List E × SM) :=
  match hget hp.H q with
  | some (.cells row T _ false) => bif Nat.beq T 94 then (match cksE hartC (row.take 66), row.drop 66 with
    | some hs, [c] => (match memArg hp (.pv (.one c)) with
      | some (_, _, s) => some (hs, s)
      | none => none)
    | _, _ => none) else none
  | _ => none
def forgE (hp : Hp) : Hp := ⟨[], hp.nx, hp.lim, hp.rest, ⟨hp.gh.k, hp.gh.d, []⟩⟩
def forgO : Orc := fun f args hp =>
  bif Nat.beq f 16 then
    match args with
    | [.pv (.one (.ptr q 0)), .pv ev] => (match machB hp q, shEs [.agg envC] [ev] with
      | some (hs, s), some es => bif inRs hp.gh.k hartR hs then (bif inRs hp.gh.k envR es then (bif holdsB hp.gh.k hs mayK then (match lookD 11 (hs ++ es) hp.gh.d with
        | some [c, o] => bif inRs hp.gh.k [U, (.ofNat 0, .ofNat 0)] [c, o] then some (xlets hp 40 (hs ++ es ++ [s.n] ++ [c, o] ++ s.ps) recL (fun _ => []) fun vs hp => svK (rsSV (.one (.agg recC)) vs) fun v => .ret (v, forgE hp)) else none
        | _ => none) else none) else none) else none
      | _, _ => none)
    | _ => none
  else none
theorem forg_h {C : Ctx} {hp : Hp} {w w' : World} (hX : C.X = memsX) (h : HRel C hp w) {p b : Nat} {S : Nat → Prop} (hp_ : C.O p) (hb : C.S b) (hS : ∀ g, S g → C.S g) (h0 : w.heap.size ≤ w'.heap.size) (h1 : w'.tape = w.tape) (h2 : w'.os = w.os) (h3 : w'.output = w.output)
    (hk : ∀ g, g < w.heap.size → g ≠ p → g ≠ b → ¬ S g → w'.heap[g]? = w.heap[g]?) : ∃ C', HRel C' (forgE hp) w' ∧ Kp C w C' w' ∧ C'.V = C.V ∧ C'.vd = C.vd := by
  refine ⟨{ C with S := fun _ => False }, ⟨⟨(fun b blk hb => by simp [forgE, hget] at hb), (fun b b' blk blk' g c c' hb => by simp [forgE, hget] at hb)⟩, ⟨?_, (fun e he => nomatch he), h.ext.facts, h.ext.defs⟩, (fun b blk g c hb => by simp [forgE, hget] at hb), (fun b blk g c hb => by simp [forgE, hget] at hb), h.free, fun b g c hb => Nat.lt_of_lt_of_le (h.blt b g c hb) h0⟩,
    ⟨⟨fun i hi => ⟨hi, rfl, rfl, rfl⟩, rfl, rfl, fun _ _ h => h⟩, h0, h1, h2, h3, fun g hg hO hSg => hk g hg (fun e => hO (e ▸ hp_)) (fun e => hSg (e ▸ hb)) (fun hs => hSg (hS g hs)), (fun g hg => hg.elim), fun g hg => .inl hg, fun b g c hb => .inl ⟨b, c, hb⟩⟩, rfl, rfl⟩
  show C.X.rel [] _ _ _
  rw [hX]
  exact ⟨[], rfl, ⟨(fun m hm => nomatch hm), (fun m hm => nomatch hm), (fun i j m m' hi => by simp at hi), fun g => ⟨(fun h => h.elim), fun ⟨m, hm, _⟩ => nomatch hm⟩⟩⟩
theorem machB_ok {ft : Ft} {C : Ctx} {hp : Hp} {w : World} (hC : C.Is memsX ft) (h : HRel C hp w) {q : Nat} {hs : List E} {s : SM} (hm : machB hp q = some (hs, s)) {v : Value} (hv : (SV.pv (.one (.ptr q 0))).rel C v) :
    ∃ g m, v = .pointer (some ⟨g, 0, none⟩) ∧ (∀ e ∈ hs, e.sc C.V C.vd) ∧ MachAt w g m.b (cksV hartC (hs.map (E.den C.V))) ∧ RamAt w m.b m.n (putsW m.ps) m.S ∧ SMrel C.V s m ∧ (s.n.sc C.V C.vd ∧ ∀ y ∈ s.ps, y.sc C.V C.vd) ∧ C.O g ∧ C.S m.b ∧ (∀ x, m.S x → C.S x) ∧ ¬ C.S g := by
  unfold machB at hm
  split at hm
  · rename_i row T es hget
    obtain ⟨hT, hm⟩ : Nat.beq T 94 = true ∧ _ := by
      cases hb : Nat.beq T 94 with
      | true => rw [hb, cond_true] at hm; exact ⟨rfl, hm⟩
      | false => rw [hb, cond_false] at hm; cases hm
    have hT : T = 94 := Nat.eq_of_beq_eq_true hT
    subst hT
    split at hm
    · rename_i hs0 c0 hh0 hd
      split at hm
      · rename_i sms i s0 ha
        cases hm
        obtain ⟨g, c, hg, vs, sp, k1, k2, k3, _, k5⟩ := h.at_ q _ hget
        obtain ⟨g', c', hg', rfl⟩ := hv
        rw [hg] at hg'; cases hg'
        obtain ⟨c1, c2, c3⟩ := cksE_ok hh0 (k1.take 66)
        have hdr := k1.drop 66
        rw [hd] at hdr
        obtain ⟨u, hu⟩ : ∃ u, u = vs.drop 66 := ⟨_, rfl⟩
        rw [← hu] at hdr
        cases hdr with
        | cons q1 q2 =>
          cases q2
          rename_i v0
          obtain ⟨ms, m, hM, rfl, hR⟩ := memArg_ok hC h ha q1
          have hmm : m ∈ ms := List.mem_of_getElem? hM.mi
          have hvs : vs = vs.take 66 ++ [Value.pointer (some ⟨m.b, 0, none⟩)] := by
            conv => lhs; rw [← List.take_append_drop 66 vs]
            rw [← hu]
          refine ⟨g, m, rfl, c1, ⟨?_, ?_⟩, hR, hM.sm, hM.sc _ (List.mem_of_getElem? hM.si), h.own q _ g c hget rfl hg, (hM.at_.all _).2 ⟨m, hmm, .inl rfl⟩, fun x hx => (hM.at_.all _).2 ⟨m, hmm, .inr hx⟩, h.apart q _ g c hget hg⟩
          · rw [cksV_len]; rfl
          · have := c3 []
            rw [List.append_nil] at this
            rw [k2, k3 rfl, List.append_nil, ← this, ← hvs]
      · cases hm
    · cases hm
  · cases hm
theorem forgO_ok {ft : Ft} (h11 : ft 11 = selF) (h40 : ft 40 = loiG) : OrcOk Tryz.prog memsX ft forgO := by
  intro f args hp t h0 C w vs hC h hv
  unfold forgO at h0
  cases hb : Nat.beq f 16 with
  | false => rw [hb, cond_false] at h0; cases h0
  | true =>
  rw [hb, cond_true] at h0
  have hff : f = 16 := Nat.eq_of_beq_eq_true hb
  subst hff
  split at h0
  · rename_i q ev
    split at h0
    · rename_i hs s es hm hes
      cases hi1 : inRs hp.gh.k hartR hs with
      | false => rw [hi1, cond_false] at h0; cases h0
      | true =>
      rw [hi1, cond_true] at h0
      cases hi2 : inRs hp.gh.k envR es with
      | false => rw [hi2, cond_false] at h0; cases h0
      | true =>
      rw [hi2, cond_true] at h0
      cases hi3 : holdsB hp.gh.k hs mayK with
      | false => rw [hi3, cond_false] at h0; cases h0
      | true =>
      rw [hi3, cond_true] at h0
      split at h0
      · rename_i c o hl
        cases hi4 : inRs hp.gh.k [U, (.ofNat 0, .ofNat 0)] [c, o] with
        | false => rw [hi4, cond_false] at h0; cases h0
        | true =>
        rw [hi4, cond_true] at h0
        cases h0
        cases hv with
        | @cons _ v1 _ vs1 q1 q2 =>
        cases q2 with
        | @cons _ v2 _ vs2 q2 q3 =>
        cases q3
        obtain ⟨g, m, rfl, s1, hmach, hram, hsm, hsc, hO, hSb, hSS, hnS⟩ := machB_ok hC h hm q1
        obtain ⟨s2, hv2⟩ := shEs_ok hes (All2.cons (show PV.rel C ev v2 from q2) All2.nil)
        obtain ⟨df, hdf, hdff, hdas, hdo⟩ := lookD_ok hl
        have hdok := h.ext.defs df hdf
        have hI1 := inRs_ok h.ks hi1 s1
        have hI2 := inRs_ok h.ks hi2 s2
        have hsc3 : ∀ e ∈ [c, o], e.sc C.V C.vd := fun e he => hdok.outs e (by rw [hdo]; exact he)
        have hI4 := inRs_ok h.ks hi4 hsc3
        have hc := inB_get hI4 (i := 0) (r := U) rfl
        have ho := inB_get hI4 (i := 1) (r := (.ofNat 0, .ofNat 0)) rfl
        have hc0 : (0 : Int) ≤ c.den C.V := hc.1
        have hc1 : c.den C.V ≤ (18446744073709551615 : Int) := hc.2
        have ho0 : (0 : Int) ≤ o.den C.V := ho.1
        have ho1 : o.den C.V ≤ (0 : Int) := ho.2
        have hoz : o.den C.V = 0 := by omega
        have hdeq := hdok.eq
        rw [hdff, hdo, allEq_ok C.V hdas, hC.1, h11, List.map_append] at hdeq
        simp only [List.map_cons, List.map_nil, hoz] at hdeq
        have hlen1 : (hs.map (E.den C.V)).length = 66 := hI1.1
        have hlen2 : (es.map (E.den C.V)).length = 10 := hI2.1
        have hv3 : v2 = .agg (cksV envC (es.map (E.den C.V))).toArray := by
          have := hv2
          simp only [shVs, List.cons.injEq, and_true] at this
          exact this
        subst hv3
        have hpb : g ≠ m.b := fun e => hnS (e ▸ hSb)
        have hpS : ¬ m.S g := fun e => hnS (hSS g e)
        have hmay := holdsB_ok h.ks s1 (by have := hI1.1; simpa using this) (by kernel_rfl) hi3
        obtain ⟨L1, L2⟩ := loi_told hI1 hI2 hmay hmach hram hpb hpS hdeq hc0 hc1
        have hargs : (hs ++ es ++ [s.n] ++ [c, o] ++ s.ps).map (E.den C.V) = hs.map (E.den C.V) ++ es.map (E.den C.V) ++ [(m.n : Int)] ++ [c.den C.V, 0] ++ m.ps := by
          simp only [List.map_append, List.map_cons, List.map_nil, hsm.n, hsm.ps, hoz]
        have hF : C.V.f 40 ((hs ++ es ++ [s.n] ++ [c, o] ++ s.ps).map (E.den C.V)) = loiF (putsW m.ps) (hs.map (E.den C.V) ++ es.map (E.den C.V) ++ [(m.n : Int)] ++ [c.den C.V, 0]) := by
          have hl79 : (hs.map (E.den C.V) ++ es.map (E.den C.V) ++ [(m.n : Int)] ++ [c.den C.V, 0]).length = 79 := by simp only [List.length_append, hlen1, hlen2]; rfl
          rw [hargs, hC.1, h40]
          unfold loiG
          rw [List.drop_left' hl79, List.take_left' hl79]
        intro Φ hx
        obtain ⟨C', hp', outs, n1, n2, n3, n4, n5, n6, n7, n8, n9, n10, n11⟩ := xlets_ok h (fun y hy => by
          simp only [List.mem_append, List.mem_cons, List.not_mem_nil, or_false] at hy
          rcases hy with (((hy | hy) | rfl) | hy) | hy
          · exact s1 y hy
          · exact s2 y hy
          · exact hsc.1
          · exact hsc3 y (by simpa using hy)
          · exact hsc.2 y hy) (by rw [hF]; exact L1) (fun _ _ _ _ _ q hq => by cases hq) hx
        rw [hF] at n4
        rw [svK_eq] at n5
        refine L2.mono ?_
        rintro e w' ⟨rfl, z0, z1, z2, z3, z4⟩
        obtain ⟨C'', k1, k2, k3, k4⟩ := forg_h (n9.trans hC.2.1) n1 (p := g) (b := m.b) (S := m.S) (by rw [n8]; exact hO) (by rw [n7]; exact hSb) (fun x hx => by rw [n7]; exact hSS x hx) z0 z1 z2 z3 z4
        refine ⟨C'', _, _, _, rfl, ?_, k1, n2.trans k2, by rw [k3]; exact n5⟩
        have := rsSV_rel (C := C') (.one (.agg recC)) n3
        rw [n4] at this
        exact SV.rel.le k2.le this
      · cases h0
    · cases h0
  · cases h0
end
end Go.Proofs.YtkogjjeoihnjpaaGreat.Sx
end
