/- The document's May of any hart: true just of one that may be; as a contract that goes two ways. No condition. -/
import Derived.Test.YtkogjjeoihnjpaaGreatPack37
import Derived.Test.YtkogjjeoihnjpaaGreatPack48
import Derived.KernelRfl
section
set_option linter.unusedVariables false
set_option linter.unusedSimpArgs false
namespace Go.Proofs.YtkogjjeoihnjpaaGreat.Sx
open Go Go.RowKit
set_option maxRecDepth 100000
noncomputable section
def mayP (a : SV × Hp) : Bool :=
  match a.1 with
  | .pv (.one (.bool e)) => (match knownF a.2.gh.k e with
    | some false => true
    | _ => bif inRs ((e, true) :: a.2.gh.k) hartR (vars 0 hartW) then holdsB ((e, true) :: a.2.gh.k) (vars 0 hartW) mayK else false)
  | _ => false
def mayT : XR := xfn Tryz.prog tab.get noOrc 5000 100 18 [hartS] (hpN [])
theorem may_run : mayT.every mayP = true := by kernel_rfl
def isMay (h : List Int) : Prop := InB hartR h ∧ KsOk (env0 h) mayK
open Classical in
def mayF (h : List Int) : List Int := if isMay h then [1] else [0]
theorem may_scTR : mayK.all (fun q => scTy hartR true q.1) = true := by kernel_rfl
theorem may_dec {h : List Int} (hh : InB hartW h) (w : World) : Calls Tryz.prog 18 #[.agg (cksV hartC h).toArray] w (Gives (.bool (decide (mayF h = [1]))) w) := by
  by_cases hm : isMay h
  · have e : mayF h = [1] := by unfold mayF; rw [if_pos hm]
    rw [e]
    exact rmay_says h hm.1 hm.2 w
  · have e : mayF h = [0] := by unfold mayF; rw [if_neg hm]
    rw [e]
    have hrel := hartS_rel (ft := fun _ _ => []) (more := []) hh
    rw [List.append_nil] at hrel
    refine (xfn_ok (X := memsX) (ft := fun _ _ => []) tab_ok (noOrc_ok _ _ _) mixed 5000 100 18 [hartS] (hpN []) (ctxN (fun _ _ => []) h) w _ (ctxN_is _ h) (hrelN (fk := []) hh (by decide) rfl (fun q hq => by cases hq) w) (.cons hrel .nil) (fun _ a => mayP a = true) (T.every_holds may_run)).mono ?_
    rintro e' w' ⟨C', v, sv, hp', rfl, hrel', hH, hK, hb⟩
    refine ⟨?_, ⟨hK.os, hK.tape, hK.output, hK.size, fun k hk => hK.keep k hk (fun e => e) (fun e => e)⟩⟩
    congr 1
    unfold mayP at hb
    split at hb
    · rename_i e hsv
      simp only at hsv
      subst hsv
      obtain ⟨hes, rfl⟩ := hrel'
      have hno : e.tr C'.V = false := by
        split at hb
        · rename_i hk
          exact knownF_ok hH.ks hes hk
        · cases htr : e.tr C'.V with
          | false => rfl
          | true =>
            exfalso
            have hks : KsOk C'.V ((e, true) :: hp'.gh.k) := hH.ks.cons htr
            obtain ⟨h1, h2⟩ := and_bif hb
            have hsc0 : ∀ e ∈ vars 0 hartW, e.sc (ctxN (fun _ _ => []) h).V (ctxN (fun _ _ => []) h).vd := fun e he => by
              obtain ⟨j, r, h1, rfl⟩ := vars_get he
              have hj : j < hartW.length := (List.getElem?_eq_some_iff.1 h1).1
              have hj66 : j < 66 := hj
              have hb := inB_get hh h1
              simp only [Nat.zero_add]
              exact ⟨show j < 1000 by omega, hb.1, hb.2⟩
            have hsc : ∀ e ∈ vars 0 hartW, e.sc C'.V C'.vd := fun e he => (E.sc_le hK.le e (hsc0 e he)).1
            have hden : (vars 0 hartW).map (E.den C'.V) = h := (den_map hK.le hsc0).trans (vars_den hh.1 fun j m hj => by
              show h.getD (0 + j) 0 = m
              rw [Nat.zero_add, List.getD, hj]; rfl)
            have r1 := inRs_ok hks h1 hsc
            have r2 := holdsB_ok hks hsc (rs := hartR) (by have := congrArg List.length hden; simp only [List.length_map] at this; rw [this, hh.1]; rfl) may_scTR h2
            rw [hden] at r1 r2
            exact hm ⟨r1, r2⟩
      rw [hno]
      simp
    · cases hb
def yesT (hp : Hp) : XR := .ret (.pv (.one (.bool (.tt true))), hp)
/-- which privilege -/
def privK (es : List E) (hp : Hp) : XR :=
  match es with
  | _ :: p :: _ => xif (.cmp .eql p (.lit (.ofNat 0))) hp yesT fun hp => xif (.cmp .eql p (.lit (.ofNat 1))) hp yesT fun hp => xif (.cmp .eql p (.lit (.ofNat 3))) hp yesT fun _ => .skip
  | _ => .bad "may of what"
def mayRO : Orc := fun f args hp =>
  bif Nat.beq f 18 then
    match asPVs' args with
    | some ps => (match shEs [.agg hartC] ps with
      | some es => bif inRs hp.gh.k hartW es then some (xlets hp 41 es [BB] (fun _ => []) fun vs hp => match vs with
        | [v] => xif (.cmp .eql v (.lit (.ofNat 1))) hp (fun hp => ksK (sbK es mayK ++ hp.gh.k) fun k => privK es ⟨hp.H, hp.nx, hp.lim, hp.rest, ⟨k, hp.gh.d, hp.gh.m⟩⟩) (fun hp => .ret (.pv (.one (.bool (.tt false))), hp))
        | _ => .bad "may") else none
      | none => none)
    | none => none
  else none
theorem HRel.withK {C : Ctx} {hp : Hp} {w : World} (h : HRel C hp w) {k : Ks} (hk : ∀ q ∈ k, q.1.sc C.V C.vd ∧ q.1.tr C.V = q.2) : HRel C ⟨hp.H, hp.nx, hp.lim, hp.rest, ⟨k, hp.gh.d, hp.gh.m⟩⟩ w :=
  ⟨h.toHCore, ⟨h.ext.rel, h.ext.msc, hk, h.ext.defs⟩, h.apart, h.own, h.free, h.blt⟩
theorem privK_ok {C : Ctx} {w : World} {Φ : Env → SV × Hp → Prop} {es : List E} {hp : Hp} (h : HRel C hp w) (hs : ∀ e ∈ es, e.sc C.V C.vd) (hm : isMay (es.map (E.den C.V))) (hx : (privK es hp).holds Φ C.V) : ∃ hp', HRel C hp' w ∧ Φ C.V (.pv (.one (.bool (.tt true))), hp') := by
  unfold privK at hx
  split at hx
  · rename_i a p r
    have hp_ : p.sc C.V C.vd := hs p (by simp)
    have h1 := inB_get hm.1 (i := 1) (r := R 3) rfl
    have h2 := hm.2 (.cmp .eql (.var (.ofNat 0) (.ofNat 3) 1) (ln 2), false) (by simp [mayK])
    simp only [tr_cmp, den_var, ln, den_lit, cmpD] at h2
    have e0 : (env0 ((a :: p :: r).map (E.den C.V))).i 1 = p.den C.V := rfl
    rw [e0] at h2
    have h1a : (0 : Int) ≤ p.den C.V := h1.1
    have h1b : p.den C.V ≤ (3 : Int) := h1.2
    have h2 : p.den C.V ≠ 2 := by simpa using h2
    have tr : ∀ n : Nat, (E.cmp .eql p (.lit (.ofNat n))).tr C.V = decide (p.den C.V = n) := fun n => by
      rw [tr_cmp, den_lit]; simp only [cmpD, Int.ofNat_eq_natCast]; rw [Bool.beq_eq_decide_eq]
    obtain ⟨hp1, k1, _, _, _, _, _, _, t1, f1⟩ := xif_holds (c := .cmp .eql p (.lit (.ofNat 0))) h (show _ ∧ _ from ⟨hp_, trivial⟩) hx
    by_cases c0 : p.den C.V = 0
    · exact ⟨hp1, k1, t1 (by rw [tr]; simpa using c0)⟩
    · obtain ⟨hp2, k2, _, _, _, _, _, _, t2, f2⟩ := xif_holds (c := .cmp .eql p (.lit (.ofNat 1))) k1 (show _ ∧ _ from ⟨hp_, trivial⟩) (f1 (by rw [tr]; simpa using c0))
      by_cases c1 : p.den C.V = 1
      · exact ⟨hp2, k2, t2 (by rw [tr]; simpa using c1)⟩
      · obtain ⟨hp3, k3, _, _, _, _, _, _, t3, f3⟩ := xif_holds (c := .cmp .eql p (.lit (.ofNat 3))) k2 (show _ ∧ _ from ⟨hp_, trivial⟩) (f2 (by rw [tr]; simpa using c1))
        exact ⟨hp3, k3, t3 (by rw [tr]; have : p.den C.V = 3 := by omega
                               simpa using this)⟩
  · exact hx.elim
theorem mayRO_ok (X : Ext) (ft : Ft) (h41 : ft 41 = mayF) : OrcOk Tryz.prog X ft mayRO := by
  intro f args hp t h0 C w vs hC h hv
  unfold mayRO at h0
  cases hb : Nat.beq f 18 with
  | false => rw [hb, cond_false] at h0; cases h0
  | true =>
  rw [hb, cond_true] at h0
  have hff : f = 18 := Nat.eq_of_beq_eq_true hb
  subst hff
  split at h0
  · rename_i ps hps
    split at h0
    · rename_i es hes
      cases hin : inRs hp.gh.k hartW es with
      | false => rw [hin, cond_false] at h0; cases h0
      | true =>
      rw [hin, cond_true] at h0
      cases h0
      obtain ⟨m1, m2⟩ := shEs_ok hes (asPVs'_ok hps hv)
      have hI := inRs_ok h.ks hin m1
      have hm2 : vs.toArray = #[.agg (cksV hartC (es.map (E.den C.V))).toArray] := by rw [m2]; rfl
      rw [hm2]
      have hd := may_dec hI w
      have hF : C.V.f 41 (es.map (E.den C.V)) = mayF (es.map (E.den C.V)) := by rw [hC.1, h41]
      have hFB : InB [BB] (mayF (es.map (E.den C.V))) := by
        unfold mayF
        split
        · exact ⟨rfl, fun j r n hj hn => by
            match j with
            | 0 => cases hj; cases hn; exact ⟨by decide, by decide⟩
            | j + 1 => simp at hj⟩
        · exact ⟨rfl, fun j r n hj hn => by
            match j with
            | 0 => cases hj; cases hn; exact ⟨by decide, by decide⟩
            | j + 1 => simp at hj⟩
      intro Φ hx
      obtain ⟨C', hp', outs, n1, n2, n3, n4, n5, n6, n7, n8, n9, n10, n11⟩ := xlets_ok h m1 (by rw [hF]; exact hFB) (fun _ _ _ _ _ q hq => by cases hq) hx
      rw [hF] at n4
      split at n5
      · rename_i v
        have hsv : v.sc C'.V C'.vd := n3 v (by simp)
        have hv1 : [v.den C'.V] = mayF (es.map (E.den C.V)) := n4
        obtain ⟨hp1, k1, _, _, _, _, _, _, t1, f1⟩ := xif_holds (c := .cmp .eql v (.lit (.ofNat 1))) n1 (show _ ∧ _ from ⟨hsv, trivial⟩) n5
        have tr : (E.cmp .eql v (.lit (.ofNat 1))).tr C'.V = decide (v.den C'.V = 1) := by
          rw [tr_cmp, den_lit]; simp only [cmpD, Int.ofNat_eq_natCast]; rw [Bool.beq_eq_decide_eq]; rfl
        have hsc' : ∀ e ∈ es, e.sc C'.V C'.vd := fun e he => (E.sc_le n2.le e (m1 e he)).1
        have hden' : es.map (E.den C'.V) = es.map (E.den C.V) := den_map n2.le m1
        by_cases hm : isMay (es.map (E.den C.V))
        · have e1 : mayF (es.map (E.den C.V)) = [1] := by unfold mayF; rw [if_pos hm]
          rw [e1] at hd hv1
          have hv2 : v.den C'.V = 1 := by simpa using hv1
          have t2 := t1 (by rw [tr]; simpa using hv2)
          rw [ksK_eq] at t2
          have k2 := k1.withK (k := sbK es mayK ++ hp1.gh.k) fun q hq => by
            rcases List.mem_append.1 hq with hq | hq
            · refine sbK_ok (rs := hartR) hsc' (by have := hm.1.1; simpa using this) may_scTR ?_ q hq
              rw [hden']; exact hm.2
            · exact k1.ext.facts q hq
          obtain ⟨hp3, k3, k4⟩ := privK_ok k2 hsc' (by rw [hden']; exact hm) t2
          refine hd.mono ?_
          rintro e w' ⟨rfl, hbel⟩
          obtain ⟨q1, q2⟩ := k3.below' hbel
          exact ⟨C', _, .pv (.one (.bool (.tt true))), hp3, rfl, show _ ∧ _ from ⟨trivial, by simp [tr_tt]⟩, q1, n2.trans q2, k4⟩
        · have e1 : mayF (es.map (E.den C.V)) = [0] := by unfold mayF; rw [if_neg hm]
          rw [e1] at hd hv1
          have hv2 : v.den C'.V = 0 := by simpa using hv1
          have t2 := f1 (by rw [tr]; rw [hv2]; rfl)
          refine hd.mono ?_
          rintro e w' ⟨rfl, hbel⟩
          obtain ⟨q1, q2⟩ := k1.below' hbel
          exact ⟨C', _, .pv (.one (.bool (.tt false))), hp1, rfl, show _ ∧ _ from ⟨trivial, by simp [tr_tt]⟩, q1, n2.trans q2, t2⟩
      · exact n5.elim
    · cases h0
  · cases h0
end
end Go.Proofs.YtkogjjeoihnjpaaGreat.Sx
end
