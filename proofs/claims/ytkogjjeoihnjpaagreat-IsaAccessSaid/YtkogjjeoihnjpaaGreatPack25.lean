/- An access: the document's machine answers as the program's. No condition. Some ways of a run hold. No condition. All ways of a run hold. No condition. Some ways of a run hold. No condition. All ways of a run hold. No condition. Some ways of a run hold. No condition. Some ways of a run hold. No condition. All ways of a run hold. No condition. -/
import Derived.Test.YtkogjjeoihnjpaaGreatPack22
import Derived.Test.YtkogjjeoihnjpaaGreatPack24
import Derived.Test.YtkogjjeoihnjpaaGreatPack19
import Derived.KernelRfl
section
set_option linter.unusedVariables false
set_option linter.unusedSimpArgs false
namespace Go.Proofs.YtkogjjeoihnjpaaGreat.Sx
open Go Go.RowKit
set_option maxRecDepth 100000
noncomputable section
/-- is that what was asked? -/
def whrEq (k : Ks) (xs es : List E) (n : E) : Bool := match xs, es.drop 66 with
  | va :: sz :: kd :: _ :: ac :: _ :: _ :: r, [va', sz', kd', ac'] => bif allEqF k [va, sz, kd, ac] [va', sz', kd', ac'] then allEqF k r (es.take 66 ++ [n]) else false
  | _, _ => false
def findW (k : Ks) (es : List E) (n : E) : List Df → Option (List E × List E)
  | [] => none
  | q :: r => bif (bif Nat.beq q.f 34 then whrEq k q.as es n else false) then some (q.as, q.outs) else findW k es n r
theorem findW_ok {k : Ks} {es : List E} {n : E} {xs outs : List E} : ∀ {d : List Df}, findW k es n d = some (xs, outs) → ∃ q ∈ d, q.f = 34 ∧ whrEq k q.as es n = true ∧ q.as = xs ∧ q.outs = outs
  | [], h => nomatch h
  | q :: r, h => by
    unfold findW at h
    cases hb : (bif Nat.beq q.f 34 then whrEq k q.as es n else false) with
    | true =>
      rw [hb, cond_true] at h
      cases h
      obtain ⟨h1, h2⟩ := and_bif hb
      exact ⟨q, List.mem_cons_self, Nat.eq_of_beq_eq_true h1, h2, rfl, rfl⟩
    | false =>
      rw [hb, cond_false] at h
      obtain ⟨q', k1, k2⟩ := findW_ok h
      exact ⟨q', List.mem_cons_of_mem _ k1, k2⟩
theorem range_drop {A : List Int} (h : A.length = 73) : (List.range' 7 66).map (fun i => A.getD i 0) = A.drop 7 := by
  apply List.ext_getElem?
  intro j
  by_cases hj : j < 66
  · rw [List.getElem?_map, List.getElem?_range' hj, List.getElem?_drop]
    simp only [Option.map_some, List.getD]
    rw [show 7 + 1 * j = 7 + j by omega, List.getElem?_eq_getElem (by omega)]
    rfl
  · rw [List.getElem?_eq_none (by simp; omega), List.getElem?_eq_none (by simp; omega)]
theorem whr_args {V : Env} {d : Nat → Prop} {k : Ks} (hk : KsOk V k) {xs es : List E} {n : E} (hxs : ∀ e ∈ xs, e.sc V d) (hess : ∀ e ∈ es, e.sc V d) (hns : n.sc V d) (hl : es.length = 70) (h : whrEq k xs es n = true) : xs.length = 74 ∧ (whrIx.map fun i => ((xs.take 73).map (E.den V)).getD i 0) = es.map (E.den V) ∧ xs.map (E.den V) = (xs.take 73).map (E.den V) ++ [n.den V] := by
  unfold whrEq at h
  split at h
  · rename_i va sz kd x1 ac x2 x3 r va' sz' kd' ac' hd
    obtain ⟨h1, h2⟩ := and_bif h
    have hd4 : ∀ e ∈ [va', sz', kd', ac'], e ∈ es := fun e he => List.mem_of_mem_drop (i := 66) (by rw [hd]; exact he)
    have e1 := allEqF_ok (d := d) hk (fun e he => hxs e (by
      simp only [List.mem_cons, List.not_mem_nil, or_false] at he ⊢
      rcases he with rfl | rfl | rfl | rfl <;> simp)) (fun e he => hess e (hd4 e he)) h1
    have e2 := allEqF_ok (d := d) hk (fun e he => hxs e (by
      simp only [List.mem_cons]
      exact .inr (.inr (.inr (.inr (.inr (.inr (.inr he)))))))) (fun e he => by
      rcases List.mem_append.1 he with he | he
      · exact hess e (List.mem_of_mem_take he)
      · rw [List.mem_singleton.1 he]; exact hns) h2
    simp only [List.map_cons, List.map_nil, List.cons.injEq, and_true] at e1
    have hr : r.length = 67 := by
      have := congrArg List.length e2
      simp only [List.length_map, List.length_append, List.length_take, hl, List.length_singleton] at this
      omega
    have hes : es = es.take 66 ++ [va', sz', kd', ac'] := by rw [← hd, List.take_append_drop]
    have hrt : (r.take 66).map (E.den V) = (es.take 66).map (E.den V) := by
      rw [List.map_take, e2, List.map_append, List.take_left' (by simp [hl])]
    have hA : (((va :: sz :: kd :: x1 :: ac :: x2 :: x3 :: r).take 73).map (E.den V)) = va.den V :: sz.den V :: kd.den V :: x1.den V :: ac.den V :: x2.den V :: x3.den V :: (es.take 66).map (E.den V) := by
      rw [← hrt]; rfl
    have hAl : (((va :: sz :: kd :: x1 :: ac :: x2 :: x3 :: r).take 73).map (E.den V)).length = 73 := by simp [hr]
    refine ⟨by simp [hr], ?_, ?_⟩
    · unfold whrIx
      rw [List.map_append, range_drop hAl, hA]
      conv => rhs; rw [hes]
      rw [List.map_append]
      simp only [List.map_cons, List.map_nil, e1.1, e1.2.1, e1.2.2.1, e1.2.2.2]
      rfl
    · rw [hA]
      simp only [List.map_cons, e2, List.map_append, List.map_nil, List.cons_append]
  · cases h
def whereOrc (f0 : FuncId) (r0 : Nat) : Orc := fun f args hp =>
  bif Nat.beq f f0 then
    match args with
    | p :: rest => bif refRow hp r0 p then (match asPVs' rest with
      | some ps => (match shEs [.agg hartC, .one cu, .one ci, .one ci, .one cb] ps with
        | some es => (match hp.gh.m with
          | [n] => (match findW hp.gh.k es n hp.gh.d with
            | some (xs, outs) => bif inRs hp.gh.k wnR (xs.take 73) then some (svK (rsSV (.tup [.one cu, .one cu]) outs) fun v => spineE (outs.drop 2) fun q => .ret (v, hp.mem (n :: q))) else some (.bad "where. bounds")
            | none => some (.bad "where. not asked"))
          | _ => some (.bad "where of what"))
        | none => some (.bad "where. form"))
      | none => some (.bad "where. arguments")) else some (.bad "where of which")
    | _ => some (.bad "where")
  else none
theorem whereOrc_ok {sb n : Nat} {ct : Nat → Nat} {px : Nat → Option Value} {r0 : Nat} {ft : Ft} (hMW : MacW n ct) (hp0 : px r0 = some (bytesV sb n)) (hf : ft 34 = mF trnF wnR.length ct) : OrcOk Tryz.prog (refX sb n ct px) ft (whereOrc 52 r0) := by
  intro f args hp t h0 C w vs hC h hv
  unfold whereOrc at h0
  cases hb : Nat.beq f 52 with
  | false => rw [hb, cond_false] at h0; cases h0
  | true =>
    rw [hb, cond_true] at h0
    have hff : f = 52 := Nat.eq_of_beq_eq_true hb
    subst hff
    split at h0
    · rename_i p rest
      cases hi : refRow hp r0 p with
      | false => rw [hi, cond_false] at h0; cases h0; exact CallOk.bad
      | true =>
      rw [hi, cond_true] at h0
      split at h0
      · rename_i ps hps
        split at h0
        · rename_i es hes
          split at h0
          · rename_i e hm
            split at h0
            · rename_i xs outs hw
              cases hin : inRs hp.gh.k wnR (xs.take 73) with
              | false => rw [hin, cond_false] at h0; cases h0; exact CallOk.bad
              | true =>
              rw [hin, cond_true] at h0
              cases h0
              cases hv with
              | @cons _ v1 _ vs1 q1 q2 =>
              obtain ⟨g, q, c, cs, rfl, hg, hmach, hone, hnS⟩ := refRow_ok hC hp0 h hi q1
              obtain ⟨m1, m2⟩ := shEs_ok hes (asPVs'_ok hps q2)
              obtain ⟨g1, g2, g3, g4, g5⟩ := gh_ref hC h hm
              obtain ⟨d, hd, hd34, hwe, rfl, rfl⟩ := findW_ok hw
              have hdf := h.ext.defs d hd
              have hel : es.length = 70 := shEs_len hes
              obtain ⟨l1, l2, l3⟩ := whr_args (V := C.V) (d := C.vd) h.ks hdf.as m1 g3 hel hwe
              have hI := inRs_ok h.ks hin (fun y hy => hdf.as y (List.mem_of_mem_take hy))
              have hgs : g ≠ sb := fun e1 => hnS ((g5 g).2 e1)
              have hF : d.outs.map (E.den C.V) = trnF ct ((d.as.take 73).map (E.den C.V) ++ [(n : Int)]) := by
                rw [← hdf.eq, hd34, hC.1, hf, l3, g1]
                have hl73 : ((d.as.take 73).map (E.den C.V)).length = 73 := by simp [l1]
                generalize (d.as.take 73).map (E.den C.V) = L at hl73 ⊢
                unfold mF
                rw [show wnR.length = 73 from rfl]
                have e1 : (L ++ [(n : Int)]).take (73 + 1) = L ++ [(n : Int)] := List.take_of_length_le (by simp [hl73])
                have e2 : (L ++ [(n : Int)]).drop (73 + 1) = [] := List.drop_eq_nil_of_le (by simp [hl73])
                rw [e1, e2]
                rfl
              rw [m2, ← l2]
              intro Φ hx
              rw [svK_eq, spineE_eq] at hx
              refine (whr_tells _ hI (ksNil _) w g sb n cs ct hMW hmach hone g4 hgs).mono ?_
              rintro e' w' ⟨rfl, t1, t2, t3⟩
              rw [← hF] at t1 ⊢
              have htu : Turned (· = sb) w w' := ⟨t2.os, t2.tape, t2.output, t2.size, fun k hk hn => by
                by_cases ek : k = g
                · rw [ek]; exact t3
                · exact t2.block k hk (fun h => h.elim ek hn)⟩
              obtain ⟨j1, j2⟩ := HRel.refTo (r := (d.outs.map (E.den C.V)).drop 2) hC h g5 (m := e :: d.outs.drop 2) (fun y hy => by
                rcases List.mem_cons.1 hy with rfl | hy
                · exact g3
                · exact hdf.outs y (List.mem_of_mem_drop hy)) (by rw [List.map_cons, g1, List.map_drop]) t1 htu
              exact ⟨C, _, _, _, rfl, rsSV_rel _ hdf.outs, j1, j2, hx⟩
            · cases h0; exact CallOk.bad
          · cases h0; exact CallOk.bad
        · cases h0; exact CallOk.bad
      · cases h0; exact CallOk.bad
    · cases h0; exact CallOk.bad
def raccOrcs : Orc := orcL [whereOrc 52 999, bytesOrc 53 999, storeOrc 73 999, mayGO 18, devOrc 69, newRO, hldRO, fieldOrc]
theorem raccOrcs_ok (sb n : Nat) (ct : Nat → Nat) (hMW : MacW n ct) : OrcOk Tryz.prog (refX sb n ct (pxR sb n)) (ftC ct) raccOrcs := orcL_ok fun o ho => by
  simp only [List.mem_cons, List.not_mem_nil, or_false] at ho
  rcases ho with rfl | rfl | rfl | rfl | rfl | rfl | rfl | rfl
  · exact whereOrc_ok hMW (pxR999 sb n) (by simp [ftC])
  · exact bytesOrc_ok (pxR999 sb n) (by simp [ftC])
  · exact storeOrc_ok (pxR999 sb n) (by simp [ftC])
  · exact mayGO_ok rmay_g _ _ (by simp [ftC])
  · exact devOrc_ok (by kernel_rfl) devR_tells _ _ (by simp [ftC])
  · exact newRO_ok _ _ (by simp [ftC])
  · exact hldRO_ok _ _ (by simp [ftC])
  · exact fieldOrc_ok _ _
def raccP (q : Int × Int) (a : SV × Hp) : Bool := bif Nat.ble 1000 a.2.nx then (rrun raccOrcs 28 [.agg wantC] (List.range 73) (wantS q) a.2).every (rsameB (.one (.agg gotC)) 2 73 a) else false
theorem range_map {args : List Int} (h : args.length = 73) : ((List.range 73).map fun i => args.getD i 0) = args := by
  apply List.ext_getElem?
  intro j
  by_cases hj : j < 73
  · rw [List.getElem?_map, List.getElem?_range hj, Option.map_some, List.getD, List.getElem?_eq_getElem (by omega)]
    rfl
  · rw [List.getElem?_eq_none (by simp; omega), List.getElem?_eq_none (by omega)]
def RaccTold (q : Int × Int) : Prop := RTells 28 [.agg wantC] (List.range 73) (wantS q) [] (.one (.agg gotC)) 9 (accFk q)
theorem racc_told {q : Int × Int} (h1 : mranB (accT q) (.one (.agg gotC)) accOrs (wantS q) [] 2 = true) (h : (accT q).every (raccP q) = true) : RaccTold q := rtells_of_run accOrcs_ok raccOrcs_ok (by show 73 ≤ 400; decide) rfl (and_bif h1).1 h
end
end Go.Proofs.YtkogjjeoihnjpaaGreat.Sx
end
section
set_option linter.unusedVariables false
namespace Go.Proofs.YtkogjjeoihnjpaaGreat.Sx
open Go Go.RowKit
set_option maxRecDepth 100000
theorem racc_same1_tt : (T.go [true, true] (accT sz1)).every (raccP sz1) = true := by kernel_rfl
theorem racc_same1_tf : (T.go [true, false] (accT sz1)).every (raccP sz1) = true := by kernel_rfl
theorem racc_same1_f : (T.go [false] (accT sz1)).every (raccP sz1) = true := by kernel_rfl
end Go.Proofs.YtkogjjeoihnjpaaGreat.Sx
end
section
set_option linter.unusedVariables false
namespace Go.Proofs.YtkogjjeoihnjpaaGreat.Sx
open Go Go.RowKit
set_option maxRecDepth 100000
theorem racc_same1 : ((accT sz1)).every (raccP sz1) = true := T.go_nil (T.go_twoE [] rfl rfl (T.go_twoE [true] rfl rfl racc_same1_tt racc_same1_tf) racc_same1_f)
end Go.Proofs.YtkogjjeoihnjpaaGreat.Sx
end
section
set_option linter.unusedVariables false
namespace Go.Proofs.YtkogjjeoihnjpaaGreat.Sx
open Go Go.RowKit
set_option maxRecDepth 100000
theorem racc_same2_tt : (T.go [true, true] (accT sz2)).every (raccP sz2) = true := by kernel_rfl
theorem racc_same2_tf : (T.go [true, false] (accT sz2)).every (raccP sz2) = true := by kernel_rfl
theorem racc_same2_f : (T.go [false] (accT sz2)).every (raccP sz2) = true := by kernel_rfl
end Go.Proofs.YtkogjjeoihnjpaaGreat.Sx
end
section
set_option linter.unusedVariables false
namespace Go.Proofs.YtkogjjeoihnjpaaGreat.Sx
open Go Go.RowKit
set_option maxRecDepth 100000
theorem racc_same2 : ((accT sz2)).every (raccP sz2) = true := T.go_nil (T.go_twoE [] rfl rfl (T.go_twoE [true] rfl rfl racc_same2_tt racc_same2_tf) racc_same2_f)
end Go.Proofs.YtkogjjeoihnjpaaGreat.Sx
end
section
set_option linter.unusedVariables false
namespace Go.Proofs.YtkogjjeoihnjpaaGreat.Sx
open Go Go.RowKit
set_option maxRecDepth 100000
theorem racc_same4_tf : (T.go [true, false] (accT sz4)).every (raccP sz4) = true := by kernel_rfl
end Go.Proofs.YtkogjjeoihnjpaaGreat.Sx
end
section
set_option linter.unusedVariables false
namespace Go.Proofs.YtkogjjeoihnjpaaGreat.Sx
open Go Go.RowKit
set_option maxRecDepth 100000
theorem racc_same4_tt : (T.go [true, true] (accT sz4)).every (raccP sz4) = true := by kernel_rfl
theorem racc_same4_f : (T.go [false] (accT sz4)).every (raccP sz4) = true := by kernel_rfl
end Go.Proofs.YtkogjjeoihnjpaaGreat.Sx
end
section
set_option linter.unusedVariables false
namespace Go.Proofs.YtkogjjeoihnjpaaGreat.Sx
open Go Go.RowKit
set_option maxRecDepth 100000
theorem racc_same4 : ((accT sz4)).every (raccP sz4) = true := T.go_nil (T.go_twoE [] rfl rfl (T.go_twoE [true] rfl rfl racc_same4_tt racc_same4_tf) racc_same4_f)
end Go.Proofs.YtkogjjeoihnjpaaGreat.Sx
end
