/- A machine's step: what it answers, what hart and what memory it leaves, as a function on numbers. No condition. What is known behind a step, said of its numbers. No condition. -/
import Derived.Test.YtkogjjeoihnjpaaGreatPack34
import Derived.Test.YtkogjjeoihnjpaaGreatPack44
import Derived.Test.YtkogjjeoihnjpaaGreatPack45
import Derived.KernelRfl
section
set_option linter.unusedVariables false
set_option linter.unusedSimpArgs false
namespace Go.Proofs.YtkogjjeoihnjpaaGreat.Sx
open Go Go.RowKit
set_option maxRecDepth 100000
noncomputable section
/-- the hart (66), the record (12), the words put (12) -/
def stpF (ct : Nat → Nat) (args : List Int) : List Int :=
  match stpT.pick (envA (ftS ct) args) with
  | some (V', a) => ((souts a).getD []).map (E.den V')
  | none => []
theorem inB_append {rs rs' : List (Int × Int)} {l l' : List Int} (h : InB rs l) (h' : InB rs' l') : InB (rs ++ rs') (l ++ l') := by
  refine ⟨by simp [h.1, h'.1], fun j q m hj hm => ?_⟩
  by_cases hl : j < rs.length
  · rw [List.getElem?_append_left hl] at hj
    rw [List.getElem?_append_left (by rw [h.1]; exact hl)] at hm
    exact h.2 j q m hj hm
  · rw [List.getElem?_append_right (by omega)] at hj
    rw [List.getElem?_append_right (by rw [h.1]; omega)] at hm
    rw [h.1] at hm
    exact h'.2 (j - rs.length) q m hj hm
theorem cksV_more : ∀ (cs : List CK) (l more : List Int), cs.length ≤ l.length → cksV cs (l ++ more) = cksV cs l
  | [], _, _, _ => rfl
  | c :: cs, [], more, h => by simp at h
  | c :: cs, a :: l, more, h => by simp only [cksV, List.cons_append, List.headD_cons, List.tail_cons]; rw [cksV_more cs l more (by simp at h; omega)]
theorem cksV_len : ∀ (cs : List CK) (l : List Int), (cksV cs l).length = cs.length
  | [], _ => rfl
  | c :: cs, l => by simp [cksV, cksV_len cs]
theorem vars_snoc : ∀ (s : Nat) (rs rs' : List (Int × Int)), vars s (rs ++ rs') = vars s rs ++ vars (s + rs.length) rs'
  | s, [], rs' => by simp [vars]
  | s, (l, h) :: rs, rs' => by
    simp only [List.cons_append, vars, vars_snoc (s + 1) rs rs', List.length_cons]
    rw [show s + 1 + rs.length = s + (rs.length + 1) by omega]
theorem may_scB : mayK.all (fun q => scB (stpRs ++ [nR]) q.1) = true := by kernel_rfl
theorem stp_scTy0 : (mayK ++ ((.cmp .eql (vu 66) (vu 156), true) :: recK.tail)).all (fun q => scTy (stpOrs ++ stpRs) true q.1) = true := by kernel_rfl
theorem stp_scTyC : scTy (stpOrs ++ stpRs) true cntK.1 = true := by kernel_rfl
theorem T.every_and {α : Type} {p q : α → Bool} : ∀ {t : T α}, t.every p = true → t.every q = true → t.every (fun a => bif p a then q a else false) = true
  | .ret a, h, k => by show (bif p a then q a else false) = true; rw [show p a = true from h]; exact k
  | .ite c t e, h, k => by
    obtain ⟨h1, h2⟩ := Bool.and_eq_true_iff.1 (show (t.every p && e.every p) = true from h)
    obtain ⟨k1, k2⟩ := Bool.and_eq_true_iff.1 (show (t.every q && e.every q) = true from k)
    show (t.every _ && e.every _) = true
    rw [T.every_and h1 k1, T.every_and h2 k2]; rfl
  | .both t e, h, k => by
    obtain ⟨h1, h2⟩ := Bool.and_eq_true_iff.1 (show (t.every p && e.every p) = true from h)
    obtain ⟨k1, k2⟩ := Bool.and_eq_true_iff.1 (show (t.every q && e.every q) = true from k)
    show (t.every _ && e.every _) = true
    rw [T.every_and h1 k1, T.every_and h2 k2]; rfl
  | .lets f es s n t, h, k => T.every_and (t := t) h k
  | .bad _, h, _ => nomatch h
  | .skip, _, _ => rfl
theorem stp_res : stpT.every sresB = true := T.every_and stp_res1 (T.every_and stp_res2 stp_res3)
theorem stp_scTy : stpK.all (fun q => scTy (stpOrs ++ stpRs) true q.1) = true := by kernel_rfl
theorem stp_scB : mayK.all (fun q => scB hartR q.1) = true := by kernel_rfl
theorem hrow_ok : hrow.all SC.ok = true := by kernel_rfl
theorem stpRs_len : stpRs.length = 76 := rfl
theorem hartR_len : hartR.length = 66 := rfl
theorem hartC_len : hartC.length = 66 := rfl
theorem step_told {h ev : List Int} (hh : InB hartR h) (he : InB envR ev) (hk : KsOk (env0 h) mayK) {w : World} {p b n : Nat} {ct : Nat → Nat} {S : Nat → Prop} (hm : MachAt w p b (cksV hartC h)) (hr : RamAt w b n ct S) (hpb : p ≠ b) (hpS : ¬ S p) :
    (InB stpOrs (stpF ct (h ++ ev ++ [(n : Int)])) ∧ KsOk (env0 (stpF ct (h ++ ev ++ [(n : Int)]) ++ (h ++ ev))) stpK) ∧
    Calls Tryz.prog 16 #[.pointer (some ⟨p, 0, none⟩), .agg (cksV envC ev).toArray] w fun e w' => e = .returned (.agg (cksV recC ((stpF ct (h ++ ev ++ [(n : Int)])).drop 66)).toArray) ∧ MachTo w w' b n (putsL n ct ((stpF ct (h ++ ev ++ [(n : Int)])).drop 78)) S p ∧ MachAt w' p b (cksV hartC (stpF ct (h ++ ev ++ [(n : Int)]))) := by
  obtain ⟨hn4, hn256⟩ : 4 ≤ n ∧ n ≤ 256 := by obtain ⟨m, pg, hh, _⟩ := hr; exact ⟨hh.lo, hh.hi⟩
  have hi : InB stpRs (h ++ ev) := inB_append hh he
  have hi' : InB (stpRs ++ [nR]) (h ++ ev ++ [(n : Int)]) := inB_snoc hi (show (4 : Int) ≤ n by omega) (show (n : Int) ≤ 256 by omega)
  have hl66 : h.length = 66 := hh.1
  have hl76 : (h ++ ev).length = 76 := hi.1
  have hk' : KsOk (env0 (h ++ ev ++ [(n : Int)])) mayK := fun q hq => by
    have := hk q hq
    unfold E.tr at *
    rw [List.append_assoc, env0_snoc hh.1 (List.all_eq_true.1 stp_scB q hq)]; exact this
  have hl' : (stpRs ++ [nR]).length ≤ 500 := by rw [List.length_append, stpRs_len]; decide
  have hnk : (stpRs ++ [nR])[76]? = some (.ofNat 4, .ofNat 256) := rfl
  have hkn : (h ++ ev ++ [(n : Int)]).getD 76 0 = n := by rw [List.getD, List.getElem?_append_right (by omega)]; simp [hl76]
  have hvs := varsM_sc (ft := ftS ct) (b := b) (n := n) (p := p) (ct := ct) (cs := cksV hartC h) (S := S) hi' hl'
  have hsub : ∀ e ∈ vars 0 hartR, e ∈ vars 0 (stpRs ++ [nR]) := fun e he => by
    unfold stpRs
    rw [vars_snoc, vars_snoc]
    exact List.mem_append_left _ (List.mem_append_left _ he)
  have hsub2 : ∀ e ∈ vars 0 stpRs, e ∈ vars 0 (stpRs ++ [nR]) := fun e he => by
    rw [vars_snoc]
    exact List.mem_append_left _ he
  have hvh : (vars 0 hartR).map (E.den (ctxM (ftS ct) (h ++ ev ++ [(n : Int)]) b n p ct (cksV hartC h) S).V) = h := vars_den hh.1 fun j m hj => by
    show (h ++ ev ++ [(n : Int)]).getD (0 + j) 0 = m
    have hjl := (List.getElem?_eq_some_iff.1 hj).1
    rw [Nat.zero_add, List.getD, List.append_assoc, List.getElem?_append_left hjl, hj]; rfl
  have hrowr : All2 (SC.rel (ctxM (ftS ct) (h ++ ev ++ [(n : Int)]) b n p ct (cksV hartC h) S)) hrow (cksV hartC h) := by
    have := cksSC_rel (C := ctxM (ftS ct) (h ++ ev ++ [(n : Int)]) b n p ct (cksV hartC h) S) hartC (l := vars 0 hartR) fun e he => hvs e (hsub e he)
    rw [hvh] at this
    exact this
  have HR := hrelM (ft := ftS ct) (mrow := hrow) (fk := mayK) (k := 76) hi' hl' may_scB hk' hnk hkn hm hrowr hrow_ok hr hpb hpS
  have CALL := xfn_ok (X := ramX b n ct (pxM b)) (ft := ftS ct) tab_ok (stpOrcs_ok b n ct) mixed 5000 100 16 (argsD [.agg envC] 66 (stpRs ++ [nR])) (hpM hrow mayK 76) _ w _ ctxM_is HR (argsM_rel hi' hl')
    (fun V' a => stpT.pick (ctxM (ftS ct) (h ++ ev ++ [(n : Int)]) b n p ct (cksV hartC h) S).V = some (V', a) ∧ sresB a = true) (T.holds_pick stp_one (T.every_holds stp_res))
  have hargs : shVs [.agg envC] ((h ++ ev ++ [(n : Int)]).drop 66) = [.agg (cksV envC ev).toArray] := by
    rw [List.append_assoc, List.drop_left' hl66]
    simp only [shVs]
    rw [cksV_more _ _ _ (by rw [he.1]; decide)]
  rw [hargs] at CALL
  have told : ∀ {e : Ending} {w' : World}, (∃ C' v sv hp', e = .returned v ∧ sv.rel C' v ∧ HRel C' hp' w' ∧ Kp (ctxM (ftS ct) (h ++ ev ++ [(n : Int)]) b n p ct (cksV hartC h) S) w C' w' ∧ stpT.pick (ctxM (ftS ct) (h ++ ev ++ [(n : Int)]) b n p ct (cksV hartC h) S).V = some (C'.V, (sv, hp')) ∧ sresB (sv, hp') = true) →
      (InB stpOrs (stpF ct (h ++ ev ++ [(n : Int)])) ∧ KsOk (env0 (stpF ct (h ++ ev ++ [(n : Int)]) ++ (h ++ ev))) stpK) ∧
      (e = .returned (.agg (cksV recC ((stpF ct (h ++ ev ++ [(n : Int)])).drop 66)).toArray) ∧ MachTo w w' b n (putsL n ct ((stpF ct (h ++ ev ++ [(n : Int)])).drop 78)) S p ∧ MachAt w' p b (cksV hartC (stpF ct (h ++ ev ++ [(n : Int)])))) := by
    rintro e w' ⟨C', v, sv, hp', rfl, hrel, hH, hK, hpick, hb⟩
    obtain ⟨es, hes, hb1, hb2, hbc, hb3⟩ := sresB_ok hb
    simp only at hb1 hb2 hbc
    · skip
      have hF : stpF ct (h ++ ev ++ [(n : Int)]) = es.map (E.den C'.V) := by
        obtain ⟨W', k1, k2⟩ := T.pick_sim (envX_sim (ftS ct) (h ++ ev ++ [(n : Int)]) (xM b (cksV hartC h))) hpick
        unfold stpF; rw [k1]; simp only [hes, Option.getD_some, k2.den]
      unfold souts at hes
      split at hes
      · rename_i row T es' hget
        simp only at hget
        cases hT : Nat.beq T 94 with
        | false => rw [hT, cond_false] at hes; cases hes
        | true =>
        rw [hT, cond_true] at hes
        have hT : T = 94 := Nat.eq_of_beq_eq_true hT
        split at hes
        · rename_i hes0 res0 e0 q hh0 hr0 hmem
          obtain ⟨l, hl0, rfl⟩ := Option.map_eq_some_iff.1 hes
          simp only at hr0 hmem
          obtain ⟨m1, rfl⟩ := rsEs_ok hr0 hrel
          have hlr := rsEs_len hr0
          have hlh := cksE_len hh0
          have hlr : res0.length = 12 := hlr
          have hlh : hes0.length = 66 := hlh
          have hC' := ctxM_is (ft := ftS ct) (args := h ++ ev ++ [(n : Int)]) (b := b) (n := n) (p := p) (ct := ct) (cs := cksV hartC h) (S := S) |>.le hK.le
          obtain ⟨g1, g2, g3, S2, g4, g5⟩ := gh_mem hC' hH hmem
          obtain ⟨l1, l2, l3⟩ := padP_ok (n := n) (ct := ct) hl0 g2
          obtain ⟨g, c, k1, vs, sp, k2, k3, k4, _⟩ := hH.at_ 900 _ hget
          have k5 := hK.le.bl 900 (p, 1) (by simp [ctxM])
          rw [k1] at k5; cases k5
          obtain ⟨c1, c2, c3⟩ := cksE_ok hh0 (k2.take 66)
          have hsc : ∀ e ∈ (hes0 ++ res0) ++ l, e.sc C'.V C'.vd := fun e he => by
            rcases List.mem_append.1 he with he | he
            · rcases List.mem_append.1 he with he | he
              · exact c1 e he
              · exact m1 e he
            · exact l1 e he
          have hin := inRs_ok hH.ks hb1 hsc
          have hva : (vars 0 stpRs).map (E.den C'.V) = h ++ ev := by
            refine (den_map (C := ctxM (ftS ct) (h ++ ev ++ [(n : Int)]) b n p ct (cksV hartC h) S) hK.le fun e he => hvs e (hsub2 e he)).trans (vars_den hi.1 fun j m hj => ?_)
            show (h ++ ev ++ [(n : Int)]).getD (0 + j) 0 = m
            rw [Nat.zero_add, List.getD, List.getElem?_append_left (List.getElem?_eq_some_iff.1 hj).1, hj]; rfl
          have hv3 : ∀ e ∈ vars 0 stpRs, e.sc C'.V C'.vd := fun e he => (E.sc_le hK.le e (hvs e (hsub2 e he))).1
          have hlv : (vars 0 stpRs).length = stpRs.length := by
            have := congrArg List.length hva
            simp only [List.length_map] at this
            rw [this]; exact hi.1
          have hle : ((hes0 ++ res0) ++ l).length = stpOrs.length := by have := hin.1; simpa using this
          obtain ⟨w1, w2, w3⟩ := wordS_ok (k := hp'.gh.k) hsc hH.ext.facts
          have hsσ : ∀ e ∈ wordS ((hes0 ++ res0) ++ l) hp'.gh.k ++ vars 0 stpRs, e.sc C'.V C'.vd := fun e he => by
            rcases List.mem_append.1 he with he | he
            · exact w1 e he
            · exact hv3 e he
          have hlσ : (wordS ((hes0 ++ res0) ++ l) hp'.gh.k ++ vars 0 stpRs).length = (stpOrs ++ stpRs).length := by rw [List.length_append, List.length_append, w3, hle, hlv]
          have hks0 := holdsB_ok (d := C'.vd) (rs := stpOrs ++ stpRs) hH.ks hsσ hlσ stp_scTy0 hb2
          have hkc := (sb_ok hsσ hlσ (e := cntK.1) (t := true) stp_scTyC).2.2 rfl
          rw [cntB_ok hH.ks hbc] at hkc
          have hks : KsOk (env0 ((wordS ((hes0 ++ res0) ++ l) hp'.gh.k ++ vars 0 stpRs).map (E.den C'.V))) stpK := fun q hq => by
            rcases List.mem_append.1 hq with hq | hq
            · exact hks0 q hq
            · rw [List.mem_singleton.1 hq]; exact hkc.symm
          rw [List.map_append, w2, hva] at hks
          rw [hF]
          have e66 : (((hes0 ++ res0) ++ l).map (E.den C'.V)).drop 66 = res0.map (E.den C'.V) ++ l.map (E.den C'.V) := by
            rw [List.map_append, List.map_append, List.append_assoc, List.drop_left' (by rw [List.length_map]; exact hlh)]
          have e78 : (((hes0 ++ res0) ++ l).map (E.den C'.V)).drop 78 = l.map (E.den C'.V) := by
            rw [List.map_append, List.drop_left' (by rw [List.length_map, List.length_append, hlh, hlr])]
          refine ⟨⟨hin, hks⟩, ?_, ⟨S2, ?_, ⟨hK.os, hK.tape, hK.output, hK.size, fun g hg hn => ?_⟩, fun g hg => ?_⟩, by rw [cksV_len]; rfl, ?_⟩
          · rw [e66, cksV_more _ _ _ (by rw [List.length_map, hlr]; decide)]
            rfl
          · rw [e78, l2]; exact g4
          · exact hK.keep g hg (fun ho => hn (.inl ho)) (fun hs => hn (.inr hs))
          · rcases hK.newS g ((g5 g).2 (.inr hg)) with h0 | h0
            · rcases h0 with rfl | h0
              · exact absurd hg g4.self.1
              · exact .inl h0
            · exact .inr h0
          · unfold ramCell at hb3
            simp only [hget] at hb3
            split at hb3
            · rename_i i hdrop
              have hi9 : i = 999 := Nat.eq_of_beq_eq_true hb3
              have hd := k2.drop 66
              rw [hdrop] at hd
              obtain ⟨u, hu⟩ : ∃ u, u = vs.drop 66 := ⟨_, rfl⟩
              rw [← hu] at hd
              cases hd with
              | cons q1 q2 =>
                cases q2
                rename_i v0
                have hv0 : v0 = .pointer (some ⟨b, 0, none⟩) := by
                  rw [q1.2.1, hi9]
                  exact (hC'.2.2 999 _ rfl).2
                rw [k3, k4 rfl, List.append_nil, hT]
                have hvs2 : vs = vs.take 66 ++ [Value.pointer (some ⟨b, 0, none⟩)] := by rw [← hv0, hu, List.take_append_drop]
                have h1 := c3 ((res0 ++ l).map (E.den C'.V))
                rw [hvs2, List.append_assoc hes0, List.map_append, ← h1]
            · cases hb3
        · cases hes
      · cases hes
  obtain ⟨e1, w1, hh1⟩ := calls_some CALL
  exact ⟨(told hh1).1, CALL.mono fun e w' h => (told h).2⟩
end
end Go.Proofs.YtkogjjeoihnjpaaGreat.Sx
end
section
set_option linter.unusedVariables false
set_option linter.unusedSimpArgs false
namespace Go.Proofs.YtkogjjeoihnjpaaGreat.Sx
open Go Go.RowKit
set_option maxRecDepth 100000
structure StepFacts (h ev F : List Int) : Prop where
  len : F.length = 90
  hart : InB hartR (F.take 66)
  may : KsOk (env0 (F.take 66)) mayK
  cyc : F.getD 66 0 = ev.getD 0 0
  rd : 0 ≤ F.getD 72 0 ∧ F.getD 72 0 ≤ 31
  tr : F.getD 69 0 = 0 ∨ F.getD 69 0 = 1
  v0 : F.getD 72 0 = 0 → F.getD 73 0 = 0
  t1 : F.getD 69 0 = 1 → F.getD 72 0 = 0 ∧ F.getD 74 0 = 0
  x : 0 < F.getD 72 0 → F.getD (2 + (F.getD 72 0).toNat) 0 = F.getD 73 0
  word : 0 ≤ F.getD 68 0 ∧ F.getD 68 0 < 4294967296
  cnt : (F.getD 68 0 % 128 = 115 ∧ F.getD 68 0 / 4096 % 4 ≠ 0 ∧ F.getD 68 0 / 1048576 = 2818) ∨ (h.getD 52 0 / 4 % 2 = F.getD 52 0 / 4 % 2 → F.getD 53 0 = if F.getD 69 0 = 1 ∨ h.getD 52 0 / 4 % 2 = 1 then h.getD 53 0 else IntKind.u64.wrap (h.getD 53 0 + 1))
theorem stpK_at : (decide (stpK[25]? = some (.cmp .eql (vu 66) (vu 156), true)) && decide (stpK[26]? = some (.ite (.cmp .neq (.var (.ofNat 0) (.ofNat 31) 72) (ln 0)) (.tt true) (.cmp .eql (vu 73) (ln 0)), true)) &&
    decide (stpK[27]? = some (.ite (.cmp .neq (.var (.ofNat 0) (.ofNat 1) 69) (ln 1)) (.tt true) (.cmp .eql (.var (.ofNat 0) (.ofNat 31) 72) (ln 0)), true)) && decide (stpK[28]? = some (.ite (.cmp .neq (.var (.ofNat 0) (.ofNat 1) 69) (ln 1)) (.tt true) (.cmp .eql (.var (.ofNat 0) (.ofNat 3) 74) (ln 0)), true)) &&
    (List.range 31).all fun j => decide (stpK[29 + j]? = some (.ite (.cmp .neq (.var (.ofNat 0) (.ofNat 31) 72) (ln (j + 1))) (.tt true) (.cmp .eql (vu (3 + j)) (vu 73)), true))) = true := by kernel_rfl
theorem stpK_60 : stpK[60]? = some cntK := by kernel_rfl
theorem step_cnt {h ev F : List Int} (hl66 : h.length = 66) (hlen : F.length = 90) (hk : KsOk (env0 (F ++ (h ++ ev))) stpK) :
    (F.getD 68 0 % 128 = 115 ∧ F.getD 68 0 / 4096 % 4 ≠ 0 ∧ F.getD 68 0 / 1048576 = 2818) ∨ (h.getD 52 0 / 4 % 2 = F.getD 52 0 / 4 % 2 → F.getD 53 0 = if F.getD 69 0 = 1 ∨ h.getD 52 0 / 4 % 2 = 1 then h.getD 53 0 else IntKind.u64.wrap (h.getD 53 0 + 1)) := by
  have g : ∀ i, i < 90 → (F ++ (h ++ ev)).getD i 0 = F.getD i 0 := fun i hi => by rw [List.getD, List.getD, List.getElem?_append_left (by omega)]
  have gh : ∀ i, i < 66 → (F ++ (h ++ ev)).getD (90 + i) 0 = h.getD i 0 := fun i hi => by rw [List.getD, List.getD, List.getElem?_append_right (by omega), hlen, Nat.add_sub_cancel_left, List.getElem?_append_left (by omega)]
  have iv : ∀ i, (env0 (F ++ (h ++ ev))).i i = (F ++ (h ++ ev)).getD i 0 := fun _ => rfl
  have k := hk _ (List.mem_of_getElem? stpK_60)
  simp only [cntK, cntW, cntW0, cntW1, cntW2, cntY, bit2, tr_ite, tr_cmp, tr_tt, den_var, den_lit, den_pl, den_bin, vu, ln, cmpD, plD, binD, iv, Nat.reduceAdd, g 52 (by omega), g 53 (by omega), g 68 (by omega), g 69 (by omega), gh 52 (by omega), gh 53 (by omega), Int.ofNat_eq_natCast] at k
  generalize F.getD 68 0 = I at *
  generalize F.getD 69 0 = t at *
  generalize F.getD 52 0 / 4 % 2 = y at *
  generalize F.getD 53 0 = n' at *
  try rw [show (F ++ (h ++ ev)).getD 142 0 = h.getD 52 0 from gh 52 (by omega)] at k
  try rw [show (F ++ (h ++ ev)).getD 143 0 = h.getD 53 0 from gh 53 (by omega)] at k
  generalize h.getD 52 0 / 4 % 2 = x at *
  by_cases c : I % 128 = 115 ∧ I / 4096 % 4 ≠ 0 ∧ I / 1048576 = 2818
  · exact .inl c
  · refine .inr fun hxy => ?_
    subst hxy
    by_cases c0 : I % 128 = 115 <;> by_cases c1 : I / 4096 % 4 = 0 <;> by_cases c2 : I / 1048576 = 2818 <;> by_cases ct : t = 1 <;> by_cases cx : x = 1 <;> simp_all
theorem stepFacts {h ev F : List Int} (hh : InB hartR h) (he : InB envR ev) (hi : InB stpOrs F) (hk : KsOk (env0 (F ++ (h ++ ev))) stpK) : StepFacts h ev F := by
  have hlen : F.length = 90 := hi.1
  have hl66 : h.length = 66 := hh.1
  have hl10 : ev.length = 10 := he.1
  have hsplit : F = F.take 66 ++ F.drop 66 := (List.take_append_drop 66 F).symm
  have ht : (F.take 66).length = 66 := by rw [List.length_take, hlen]; rfl
  have g : ∀ i, i < 90 → (F ++ (h ++ ev)).getD i 0 = F.getD i 0 := fun i hi => by rw [List.getD, List.getD, List.getElem?_append_left (by omega)]
  have gc : (F ++ (h ++ ev)).getD 156 0 = ev.getD 0 0 := by rw [List.getD, List.getD, List.getElem?_append_right (by omega), hlen, List.getElem?_append_right (by omega), hl66]
  have hin : InB hartR (F.take 66) := by
    refine ⟨ht, fun j r n hj hn => ?_⟩
    have hjl := (List.getElem?_eq_some_iff.1 hj).1
    have hj66 : j < 66 := hjl
    refine hi.2 j r n ?_ ?_
    · unfold stpOrs
      rw [List.append_assoc, List.getElem?_append_left hjl]; exact hj
    · rw [List.getElem?_take_of_lt hj66] at hn; exact hn
  have hmay : KsOk (env0 (F.take 66)) mayK := fun q hq => by
    have h1 := hk q (List.mem_append_left _ (List.mem_append_left _ hq))
    unfold E.tr at *
    rw [hsplit, List.append_assoc, env0_snoc (rs := hartR) ht (List.all_eq_true.1 stp_scB q hq)] at h1
    exact h1
  have hat := stpK_at
  simp only [Bool.and_eq_true, decide_eq_true_eq, List.all_eq_true, List.mem_range] at hat
  obtain ⟨⟨⟨⟨a1, a2⟩, a3⟩, a4⟩, a5⟩ := hat
  have k1 := hk _ (List.mem_of_getElem? a1)
  have k2 := hk _ (List.mem_of_getElem? a2)
  have k3 := hk _ (List.mem_of_getElem? a3)
  have k4 := hk _ (List.mem_of_getElem? a4)
  have iv : ∀ i, (env0 (F ++ (h ++ ev))).i i = (F ++ (h ++ ev)).getD i 0 := fun _ => rfl
  simp only [tr_ite, tr_cmp, tr_tt, den_var, den_lit, vu, ln, cmpD, iv, g 66 (by omega), g 69 (by omega), g 72 (by omega), g 73 (by omega), g 74 (by omega), gc, Int.ofNat_eq_natCast] at k1 k2 k3 k4
  have r72 := inB_get hi (i := 72) (r := R 31) rfl
  have r69 := inB_get hi (i := 69) (r := BB) rfl
  have r72a : (0 : Int) ≤ F.getD 72 0 := r72.1
  have r72b : F.getD 72 0 ≤ (31 : Int) := r72.2
  have r69a : (0 : Int) ≤ F.getD 69 0 := r69.1
  have r69b : F.getD 69 0 ≤ (1 : Int) := r69.2
  refine ⟨hlen, hin, hmay, by simpa using k1, ⟨r72a, r72b⟩, by omega, fun e => ?_, fun e => ⟨?_, ?_⟩, fun e => ?_, by have := inB_get hi (i := 68) (r := U32) rfl; have h1 : (0 : Int) ≤ F.getD 68 0 := this.1; have h2 : F.getD 68 0 ≤ (4294967295 : Int) := this.2; omega, step_cnt hl66 hlen hk⟩
  · rw [e] at k2; simpa using k2
  · rw [e] at k3; simpa using k3
  · rw [e] at k4; simpa using k4
  · obtain ⟨j, hj⟩ : ∃ j : Nat, F.getD 72 0 = (j : Int) + 1 := ⟨(F.getD 72 0 - 1).toNat, by omega⟩
    have k5 := hk _ (List.mem_of_getElem? (a5 j (by omega)))
    simp only [tr_ite, tr_cmp, tr_tt, den_var, den_lit, vu, ln, cmpD, iv, g 72 (by omega), g 73 (by omega), g (3 + j) (by omega), Int.ofNat_eq_natCast] at k5
    rw [hj] at k5
    have e1 : (((j : Int) + 1) != ((j + 1 : Nat) : Int)) = false := by simp
    rw [e1] at k5
    simp only [Bool.false_eq_true, if_false, beq_iff_eq] at k5
    rw [hj, show 2 + ((j : Int) + 1).toNat = 3 + j by omega]
    exact k5
theorem cksV_get : ∀ (cs : List CK) (l : List Int) (k : Nat) (c : CK), cs[k]? = some c → (cksV cs l)[k]? = some (ckV c (l.getD k 0))
  | [], l, k, c, h => by simp at h
  | x :: cs, l, 0, c, h => by
    simp only [List.getElem?_cons_zero, Option.some.injEq] at h
    subst h
    cases l <;> rfl
  | x :: cs, l, k + 1, c, h => by
    simp only [List.getElem?_cons_succ] at h
    simp only [cksV, List.getElem?_cons_succ]
    rw [cksV_get cs l.tail k c h]
    cases l with
    | nil => rfl
    | cons a l => rfl
end Go.Proofs.YtkogjjeoihnjpaaGreat.Sx
end
