/- Some ways of a run hold. No condition. All ways of a run hold. No condition. Whether any hart may be, as a contract: two ways, with what is known of one that may. No condition. Another function answers the same, where tests of numbers with signs are told in two ways. No condition. amo.New of four bytes looks at the lowest four bytes of what is asked: a contract that asks for those alone. No condition. A machine's access, told by a function on numbers: by its size. No condition. The document's functions of an atomic access answer as the program's. No condition. -/
import Derived.Test.YtkogjjeoihnjpaaGreatPack22
import Derived.KernelRfl
import Derived.Test.YtkogjjeoihnjpaaGreatPack23
import Derived.Test.YtkogjjeoihnjpaaGreatPack8
import Derived.Test.YtkogjjeoihnjpaaGreatPack9
import Derived.Test.YtkogjjeoihnjpaaGreatPack15
import Derived.Test.YtkogjjeoihnjpaaGreatPack11
import Derived.Test.YtkogjjeoihnjpaaGreatPack18
import Derived.Test.YtkogjjeoihnjpaaGreatPack10
section
set_option linter.unusedVariables false
namespace Go.Proofs.YtkogjjeoihnjpaaGreat.Sx
open Go Go.RowKit
set_option maxRecDepth 100000
theorem emay_ran_ttttff : (T.go [true, true, true, true, false, false] (mayQT 77)).every mayQ = true := by kernel_rfl
theorem emay_ran_f : (T.go [false] (mayQT 77)).every mayQ = true := by kernel_rfl
theorem emay_ran_ttf : (T.go [true, true, false] (mayQT 77)).every mayQ = true := by kernel_rfl
theorem emay_ran_ttttt : (T.go [true, true, true, true, true] (mayQT 77)).every mayQ = true := by kernel_rfl
theorem emay_ran_tf : (T.go [true, false] (mayQT 77)).every mayQ = true := by kernel_rfl
end Go.Proofs.YtkogjjeoihnjpaaGreat.Sx
end
section
set_option linter.unusedVariables false
namespace Go.Proofs.YtkogjjeoihnjpaaGreat.Sx
open Go Go.RowKit
set_option maxRecDepth 100000
theorem emay_ran : ((mayQT 77)).every mayQ = true := T.go_nil (T.go_twoE [] rfl rfl (T.go_twoE [true] rfl rfl (T.go_twoE [true, true] rfl rfl (T.go_twoE [true, true, true] rfl rfl (T.go_twoE [true, true, true, true] rfl rfl emay_ran_ttttt (T.go_twoE [true, true, true, true, false] rfl rfl emay_ran_ttttft emay_ran_ttttff)) (T.go_twoE [true, true, true, false] rfl rfl emay_ran_tttft emay_ran_tttff)) emay_ran_ttf) emay_ran_tf) emay_ran_f)
end Go.Proofs.YtkogjjeoihnjpaaGreat.Sx
end
section
set_option linter.unusedVariables false
set_option linter.unusedSimpArgs false
namespace Go.Proofs.YtkogjjeoihnjpaaGreat.Sx
open Go Go.RowKit
set_option maxRecDepth 100000
noncomputable section
theorem emay_g : MayG 77 := mayG_of may_says emay_ran
theorem rmay_says' : Says Tryz.prog 18 [.agg hartC] hartR mayK true := says_of_run (orc := noOrc) (ft := fun _ _ => []) (lf := 5000) (n := 100) tab_ok mixed (noOrc_ok _ _ _) (by decide) (by kernel_rfl) (by kernel_rfl)
theorem rmay_g : MayG 18 := mayG_of rmay_says' (by kernel_rfl)
/-- its privilege -/
def priB (es : List E) : Ks :=
  match es with
  | _ :: p :: _ => [(.cmp .leq p (.lit (.ofNat 3)), true), (.cmp .geq p (.lit (.ofNat 0)), true)]
  | _ => []
def mayGO (f0 : FuncId) : Orc := fun f args hp =>
  bif Nat.beq f f0 then
    match asPVs' args with
    | some ps => (match shEs [.agg hartC] ps with
      | some es => bif inRs hp.gh.k hartV es then some (xlets hp 38 es [BB] (fun _ => []) fun vs hp => match vs with
        | [v] => xif (.cmp .eql v (.lit (.ofNat 1))) hp (fun hp => ksK (priB es ++ (sbK es mayK ++ hp.gh.k)) fun k => .ret (.pv (.one (.bool (.tt true))), ⟨hp.H, hp.nx, hp.lim, hp.rest, ⟨k, hp.gh.d, hp.gh.m⟩⟩)) (fun hp => .ret (.pv (.one (.bool (.tt false))), hp))
        | _ => .bad "may") else none
      | none => none)
    | none => none
  else none
theorem HRel.withK' {C : Ctx} {hp : Hp} {w : World} (h : HRel C hp w) {k : Ks} (hk : ∀ q ∈ k, q.1.sc C.V C.vd ∧ q.1.tr C.V = q.2) : HRel C ⟨hp.H, hp.nx, hp.lim, hp.rest, ⟨k, hp.gh.d, hp.gh.m⟩⟩ w :=
  ⟨h.toHCore, ⟨h.ext.rel, h.ext.msc, hk, h.ext.defs⟩, h.apart, h.own, h.free, h.blt⟩
theorem priB_ok {V : Env} {d : Nat → Prop} {es : List E} (hs : ∀ e ∈ es, e.sc V d) (hm : isMayE (es.map (E.den V))) : ∀ q ∈ priB es, q.1.sc V d ∧ q.1.tr V = q.2 := by
  intro q hq
  unfold priB at hq
  split at hq
  · rename_i a p r
    have hp_ : p.sc V d := hs p (by simp)
    have h1 := inB_get hm.1 (i := 1) (r := R 3) rfl
    have h1a : (0 : Int) ≤ p.den V := h1.1
    have h1b : p.den V ≤ (3 : Int) := h1.2
    rcases List.mem_cons.1 hq with rfl | hq
    · exact ⟨⟨hp_, trivial⟩, decide_eq_true (show p.den V ≤ (3 : Int) from h1b)⟩
    · rw [List.mem_singleton.1 hq]
      exact ⟨⟨hp_, trivial⟩, decide_eq_true (show p.den V ≥ (0 : Int) from h1a)⟩
  · cases hq
theorem mayGO_ok {f0 : FuncId} (hg : MayG f0) (X : Ext) (ft : Ft) (h38 : ft 38 = mayEF) : OrcOk Tryz.prog X ft (mayGO f0) := by
  intro f args hp t h0 C w vs hC h hv
  unfold mayGO at h0
  cases hb : Nat.beq f f0 with
  | false => rw [hb, cond_false] at h0; cases h0
  | true =>
  rw [hb, cond_true] at h0
  have hff : f = f0 := Nat.eq_of_beq_eq_true hb
  subst hff
  split at h0
  · rename_i ps hps
    split at h0
    · rename_i es hes
      cases hin : inRs hp.gh.k hartV es with
      | false => rw [hin, cond_false] at h0; cases h0
      | true =>
      rw [hin, cond_true] at h0
      cases h0
      obtain ⟨m1, m2⟩ := shEs_ok hes (asPVs'_ok hps hv)
      have hI := inRs_ok h.ks hin m1
      have hm2 : vs.toArray = #[.agg (cksV hartC (es.map (E.den C.V))).toArray] := by rw [m2]; rfl
      rw [hm2]
      have hd := hg _ hI w
      have hF : C.V.f 38 (es.map (E.den C.V)) = mayEF (es.map (E.den C.V)) := by rw [hC.1, h38]
      have hFB : InB [BB] (mayEF (es.map (E.den C.V))) := by
        unfold mayEF
        split
        · exact ⟨rfl, fun j r n hj hn => by
            match j with
            | 0 => cases hj; cases hn; exact ⟨by decide, by decide⟩
            | j + 1 => simp at hj⟩
        · exact ⟨rfl, fun j r n hj hn => by
            match j with
            | 0 => cases hj; cases hn; exact ⟨by decide, by decide⟩
            | j + 1 => simp at hj⟩
      intro Φ hx
      obtain ⟨C', hp', outs, n1, n2, n3, n4, n5, n6, n7, n8, n9, n10, n11⟩ := xlets_ok h m1 (by rw [hF]; exact hFB) (fun _ _ _ _ _ q hq => by cases hq) hx
      rw [hF] at n4
      split at n5
      · rename_i v
        have hsv : v.sc C'.V C'.vd := n3 v (by simp)
        have hv1 : [v.den C'.V] = mayEF (es.map (E.den C.V)) := n4
        obtain ⟨hp1, k1, _, _, _, _, _, _, t1, f1⟩ := xif_holds (c := .cmp .eql v (.lit (.ofNat 1))) n1 (show _ ∧ _ from ⟨hsv, trivial⟩) n5
        have tr : (E.cmp .eql v (.lit (.ofNat 1))).tr C'.V = decide (v.den C'.V = 1) := by
          rw [tr_cmp, den_lit]; simp only [cmpD, Int.ofNat_eq_natCast]; rw [Bool.beq_eq_decide_eq]; rfl
        have hsc' : ∀ e ∈ es, e.sc C'.V C'.vd := fun e he => (E.sc_le n2.le e (m1 e he)).1
        have hden' : es.map (E.den C'.V) = es.map (E.den C.V) := den_map n2.le m1
        by_cases hm : isMayE (es.map (E.den C.V))
        · have e1 : mayEF (es.map (E.den C.V)) = [1] := by unfold mayEF; rw [if_pos hm]
          rw [e1] at hd hv1
          have hv2 : v.den C'.V = 1 := by simpa using hv1
          have t2 := t1 (by rw [tr]; simpa using hv2)
          rw [ksK_eq] at t2
          have k2 := k1.withK' (k := priB es ++ (sbK es mayK ++ hp1.gh.k)) fun q hq => by
            rcases List.mem_append.1 hq with hq | hq
            · exact priB_ok hsc' (by rw [hden']; exact hm) q hq
            rcases List.mem_append.1 hq with hq | hq
            · refine sbK_ok (rs := hartR) hsc' (by have := hm.1.1; simpa using this) may_scTV ?_ q hq
              rw [hden']; exact hm.2
            · exact k1.ext.facts q hq
          refine hd.mono ?_
          rintro e w' ⟨rfl, hbel⟩
          obtain ⟨q1, q2⟩ := k2.below' hbel
          exact ⟨C', _, .pv (.one (.bool (.tt true))), _, rfl, show _ ∧ _ from ⟨trivial, by simp [tr_tt]⟩, q1, n2.trans q2, t2⟩
        · have e1 : mayEF (es.map (E.den C.V)) = [0] := by unfold mayEF; rw [if_neg hm]
          rw [e1] at hd hv1
          have hv2 : v.den C'.V = 0 := by simpa using hv1
          have t2 := f1 (by rw [tr]; rw [hv2]; rfl)
          refine hd.mono ?_
          rintro e w' ⟨rfl, hbel⟩
          obtain ⟨q1, q2⟩ := k1.below' hbel
          exact ⟨C', _, .pv (.one (.bool (.tt false))), hp1, rfl, show _ ∧ _ from ⟨trivial, by simp [tr_tt]⟩, q1, n2.trans q2, t2⟩
      · exact n5.elim
    · cases h0
  · cases h0
end
end Go.Proofs.YtkogjjeoihnjpaaGreat.Sx
end
section
set_option linter.unusedVariables false
set_option linter.unusedSimpArgs false
namespace Go.Proofs.YtkogjjeoihnjpaaGreat.Sx
open Go Go.RowKit
noncomputable section
/-- a test with the sign turned is one of numbers with signs -/
def normC (k : Ks) : E → Option E
  | .cmp op (.bin .xor .u64 a (.lit (.ofNat 9223372036854775808))) (.bin .xor .u64 b (.lit (.ofNat 9223372036854775808))) => bif inRs k [U, U] [a, b] then some (mkCmp op (mkCast .i64 a) (mkCast .i64 b)) else none
  | _ => none
theorem xor_top (x : Int) (h0 : 0 ≤ x) (h1 : x ≤ 18446744073709551615) : binD .xor .u64 x 9223372036854775808 = IntKind.i64.wrap x + 9223372036854775808 := by
  obtain ⟨n, rfl⟩ : ∃ n : Nat, x = n := ⟨x.toNat, by omega⟩
  show IntKind.u64.wrap (((BitVec.ofInt 64 (n : Int) ^^^ BitVec.ofInt 64 9223372036854775808).toNat : Nat) : Int) = _
  rw [show (9223372036854775808 : Int) = ((9223372036854775808 : Nat) : Int) from rfl, BitVec.ofInt_natCast, BitVec.ofInt_natCast, BitVec.toNat_xor, BitVec.toNat_ofNat, BitVec.toNat_ofNat, Nat.mod_eq_of_lt (by omega), Nat.mod_eq_of_lt (by decide)]
  have key : n ^^^ 9223372036854775808 = if n < 9223372036854775808 then n + 9223372036854775808 else n - 9223372036854775808 := by
    split
    · rename_i h
      have e := Nat.two_pow_add_eq_or_of_lt (i := 63) (b := n) (by simpa using h) 1
      have : n ^^^ 9223372036854775808 = 9223372036854775808 ||| n := by
        apply Nat.eq_of_testBit_eq
        intro j
        rw [Nat.testBit_xor, Nat.testBit_or, show (9223372036854775808 : Nat) = 2 ^ 63 from rfl, Nat.testBit_two_pow]
        by_cases hj : 63 = j
        · subst hj
          have : n.testBit 63 = false := Nat.testBit_lt_two_pow (by simpa using h)
          simp [this]
        · simp [hj]
      rw [this]
      simp only [Nat.mul_one] at e
      rw [show (2 : Nat) ^ 63 = 9223372036854775808 from rfl] at e
      omega
    · rename_i h
      have hm : n - 9223372036854775808 < 2 ^ 63 := by omega
      have e := Nat.two_pow_add_eq_or_of_lt hm 1
      simp only [Nat.mul_one] at e
      have hn : n = 2 ^ 63 ||| (n - 9223372036854775808) := by rw [← e]; omega
      apply Nat.eq_of_testBit_eq
      intro j
      rw [Nat.testBit_xor]
      conv => lhs; rw [hn]
      rw [Nat.testBit_or, show (9223372036854775808 : Nat) = 2 ^ 63 from rfl, Nat.testBit_two_pow]
      by_cases hj : 63 = j
      · subst hj
        have : (n - 2 ^ 63).testBit 63 = false := Nat.testBit_lt_two_pow hm
        simp [this]
      · simp [hj]
  rw [key]
  split
  · rw [IntKind.wrap_u64, IntKind.wrap_i64]; omega
  · rw [IntKind.wrap_u64, IntKind.wrap_i64]; omega
theorem cmpD_add (op : BinOp) (x y c : Int) : cmpD op (x + c) (y + c) = cmpD op x y := by
  cases op <;> simp only [cmpD]
  case eql => rw [Bool.eq_iff_iff]; simp only [beq_iff_eq]; omega
  case neq => rw [Bool.eq_iff_iff]; simp only [bne_iff_ne]; omega
  all_goals (apply decide_eq_decide.2; omega)
theorem normC_ok {V : Env} {d : Nat → Prop} {k : Ks} (hk : KsOk V k) {e c : E} (hs : e.sc V d) (h : normC k e = some c) : c.sc V d ∧ c.tr V = e.tr V := by
  unfold normC at h
  split at h
  · rename_i op a b
    cases hin : inRs k [U, U] [a, b] with
    | false => rw [hin, cond_false] at h; cases h
    | true =>
      rw [hin, cond_true] at h
      cases h
      have hsa : a.sc V d := hs.1.1
      have hsb : b.sc V d := hs.2.1
      have hI := inRs_ok hk hin (fun y hy => by
        rcases List.mem_cons.1 hy with rfl | hy
        · exact hsa
        · rw [List.mem_singleton.1 hy]; exact hsb)
      have ba := hI.2 0 U (a.den V) rfl rfl
      have bb := hI.2 1 U (b.den V) rfl rfl
      obtain ⟨t1, t2⟩ := mkCast_ok .i64 hsa
      obtain ⟨u1, u2⟩ := mkCast_ok .i64 hsb
      obtain ⟨w1, w2⟩ := mkCmp_ok op t1 u1
      refine ⟨w1, ?_⟩
      rw [w2, t2, u2, tr_cmp, den_bin, den_bin, den_lit]
      show cmpD op (IntKind.i64.wrap (a.den V)) (IntKind.i64.wrap (b.den V)) = cmpD op (binD .xor .u64 (a.den V) 9223372036854775808) (binD .xor .u64 (b.den V) 9223372036854775808)
      rw [xor_top _ ba.1 ba.2, xor_top _ bb.1 bb.2, cmpD_add]
  · cases h
def deadX (k : Ks) : Ks → Bool
  | [] => false
  | (e, t) :: r => (match normC k e with
    | some c => (match knownF k c with
      | some x => bif blSame x t then deadX k r else true
      | none => deadX k r)
    | none => deadX k r)
theorem deadX_ok {V : Env} {d : Nat → Prop} {k : Ks} (hk : KsOk V k) : ∀ {l : Ks}, (∀ q ∈ l, q.1.sc V d ∧ q.1.tr V = q.2) → deadX k l = true → False
  | [], _, h => nomatch h
  | (e, t) :: r, hl, h => by
    have ih := deadX_ok hk (l := r) fun q hq => hl q (List.mem_cons_of_mem _ hq)
    obtain ⟨h1, h2⟩ := hl _ List.mem_cons_self
    unfold deadX at h
    split at h
    · rename_i c hc
      obtain ⟨n1, n2⟩ := normC_ok hk h1 hc
      split at h
      · rename_i x hx
        cases hb : blSame x t with
        | true => rw [hb, cond_true] at h; exact ih h
        | false =>
          have := knownF_ok hk n1 hx
          rw [n2, h2] at this
          simp only at this
          subst this
          revert hb
          cases t <;> decide
      · exact ih h
    · exact ih h
section
variable {P : Program} {tb : Tb} {orc : Orc} {ft : Ft} {f0 g0 : FuncId} {ss : List Sh} {rs ors : List (Int × Int)} {fk ok : Ks} {rsh : Rs} {lf n : Nat}
/-- another function answers the same, but where what is known cannot be -/
theorem same_of_run2 (htb : TbOk P tb) (hm : P.follows .mixedOrders = true) (ho : OrcOk P noExt ft orc) (hl : rs.length ≤ 1000) (hf : fk.all (fun q => scB rs q.1) = true)
    (h1 : (xfn P tb orc lf n f0 (argsG ss rs) (hpF fk)).one = true) (hr : (xfn P tb orc lf n f0 (argsG ss rs) (hpF fk)).every (fun a => (xfn P tb orc lf n g0 (argsG ss rs) (hpNext a.2)).every fun b => bif sameR rsh a.1 b.1 then true else deadX b.2.gh.k b.2.gh.k) = true) {args : List Int} (hi : InB rs args) (hk : KsOk (env0 args) fk) (w : World) :
    Calls P g0 (shVs ss args).toArray w (Gives (rsV rsh (Fof (xfn P tb orc lf n f0 (argsG ss rs) (hpF fk)) rsh ft args)) w) := by
  obtain ⟨e, w', C', v, sv, hp', rfl, hrel, hH, hK, hp, hb⟩ := calls_some (run_told htb hm ho hl hf h1 _ hr hi hk w)
  simp only at hb
  have hG : GhOk C'.V C'.vd noExt (fun _ => none) (fun _ => False) (hpNext hp').gh w := ⟨fun _ h => h, (fun _ h => nomatch h), hH.ext.facts, hH.ext.defs⟩
  let C2 : Ctx := ⟨C'.V, C'.vd, fun _ => none, noExt, fun _ => False, fun _ => False⟩
  have hH2 : HRel C2 (hpNext hp') w := ⟨⟨fun b blk h => by simp [hpNext, hget] at h, fun b b' blk blk' g c c' h => by simp [hpNext, hget] at h⟩, hG, (fun b blk g c h => by simp [hpNext, hget] at h), (fun b blk g c h => by simp [hpNext, hget] at h), fun b hb => ⟨rfl, by
    rcases hb with ⟨h1, h2⟩ | ⟨r, hr, _⟩
    · exact (hH.free b (.inl ⟨h1, h2⟩)).2
    · simp [hpNext] at hr⟩, fun b g c h => nomatch h⟩
  obtain ⟨ha, hsc⟩ := argsG_rel (ss := ss) (ft := ft) hi hl
  have hle : Ctx.le (ctx1 (envA ft args)) C2 := ⟨hK.le.v, hK.le.f, rfl, fun b x h => nomatch h⟩
  have ha2 : All2 (SV.rel C2) (argsG ss rs) (shVs ss args) := ha.mono fun _ _ => SV.rel.le hle
  have hft : C2.V.f = ft := hK.le.f
  refine (xfn_ok (X := noExt) (ft := ft) htb ho hm lf n g0 (argsG ss rs) (hpNext hp') C2 w (shVs ss args) ⟨hft, rfl, fun _ _ h => nomatch h⟩ hH2 ha2 _ (T.every_holds hb)).mono ?_
  rintro e w2 ⟨C3, v3, sv3, hp3, rfl, hrel3, hH3, hK3, hb3⟩
  simp only at hb3
  cases hsame : sameR rsh sv sv3 with
  | false =>
    rw [hsame, cond_false] at hb3
    exact (deadX_ok hH3.ks (fun q hq => hH3.ext.facts q hq) hb3).elim
  | true =>
  clear hb3
  have hb3 := hsame
  simp only [sameR] at hb3
  split at hb3
  · rename_i es es3 hes hes3
    obtain ⟨m1, rfl⟩ := rsEs_ok hes hrel
    obtain ⟨m3, rfl⟩ := rsEs_ok hes3 hrel3
    have hF : Fof (xfn P tb orc lf n f0 (argsG ss rs) (hpF fk)) rsh ft args = es.map (E.den C'.V) := by
      unfold Fof; rw [hp]; simp only [hes, Option.getD_some]
    have e1 : es.map (E.den C3.V) = es.map (E.den C'.V) := den_map (C := C2) (C' := C3) hK3.le m1
    refine ⟨?_, hK3.belowN⟩
    rw [hF, ← e1, allEq_ok C3.V hb3]
  · cases hb3
end
end
end Go.Proofs.YtkogjjeoihnjpaaGreat.Sx
end
section
set_option linter.unusedVariables false
set_option linter.unusedSimpArgs false
namespace Go.Proofs.YtkogjjeoihnjpaaGreat.Sx
open Go Go.RowKit
set_option maxRecDepth 100000
noncomputable section
section
variable {P : Program} {tb : Tb} {orc : Orc} {ft : Ft} {f0 g0 : FuncId} {ss : List Sh} {rs ors : List (Int × Int)} {fk ok : Ks} {rsh : Rs} {lf n : Nat}
/-- a function, of terms, answers the same as another -/
theorem same_of_run4 (htb : TbOk P tb) (hm : P.follows .mixedOrders = true) (ho : OrcOk P noExt ft orc) (hl : rs.length ≤ 1000) (hf : fk.all (fun q => scB rs q.1) = true) {es2 : List E} (hes : ∀ (V : Env) (d : Nat → Prop), (∀ e ∈ vars 0 rs, e.sc V d) → ∀ e ∈ es2, e.sc V d)
    (h1 : (xfn P tb orc lf n f0 (argsG ss rs) (hpF fk)).one = true) (hr : (xfn P tb orc lf n f0 (argsG ss rs) (hpF fk)).every (fun a => (xfn P tb orc lf n g0 ((shSVs ss es2).map .pv) (hpNext a.2)).every fun b => bif sameR rsh a.1 b.1 then true else deadX b.2.gh.k b.2.gh.k) = true) {args : List Int} (hi : InB rs args) (hk : KsOk (env0 args) fk) (w : World) :
    Calls P g0 (shVs ss (es2.map (E.den (envA ft args)))).toArray w (Gives (rsV rsh (Fof (xfn P tb orc lf n f0 (argsG ss rs) (hpF fk)) rsh ft args)) w) := by
  obtain ⟨e, w', C', v, sv, hp', rfl, hrel, hH, hK, hp, hb⟩ := calls_some (run_told htb hm ho hl hf h1 _ hr hi hk w)
  simp only at hb
  have hG : GhOk C'.V C'.vd noExt (fun _ => none) (fun _ => False) (hpNext hp').gh w := ⟨fun _ h => h, (fun _ h => nomatch h), hH.ext.facts, hH.ext.defs⟩
  let C2 : Ctx := ⟨C'.V, C'.vd, fun _ => none, noExt, fun _ => False, fun _ => False⟩
  have hH2 : HRel C2 (hpNext hp') w := ⟨⟨fun b blk h => by simp [hpNext, hget] at h, fun b b' blk blk' g c c' h => by simp [hpNext, hget] at h⟩, hG, (fun b blk g c h => by simp [hpNext, hget] at h), (fun b blk g c h => by simp [hpNext, hget] at h), fun b hb => ⟨rfl, by
    rcases hb with ⟨h1, h2⟩ | ⟨r, hr, _⟩
    · exact (hH.free b (.inl ⟨h1, h2⟩)).2
    · simp [hpNext] at hr⟩, fun b g c h => nomatch h⟩
  obtain ⟨_, hsc⟩ := argsG_rel (ss := ss) (ft := ft) hi hl
  have ha : All2 (SV.rel (ctx1 (envA ft args))) ((shSVs ss es2).map .pv) (shVs ss (es2.map (E.den (envA ft args)))) := (shSVs_rel (C := ctx1 (envA ft args)) ss (hes _ _ hsc)).map_pv
  have hle : Ctx.le (ctx1 (envA ft args)) C2 := ⟨hK.le.v, hK.le.f, rfl, fun b x h => nomatch h⟩
  have ha2 : All2 (SV.rel C2) ((shSVs ss es2).map .pv) (shVs ss (es2.map (E.den (envA ft args)))) := ha.mono fun _ _ => SV.rel.le hle
  have hft : C2.V.f = ft := hK.le.f
  refine (xfn_ok (X := noExt) (ft := ft) htb ho hm lf n g0 _ (hpNext hp') C2 w _ ⟨hft, rfl, fun _ _ h => nomatch h⟩ hH2 ha2 _ (T.every_holds hb)).mono ?_
  rintro e w2 ⟨C3, v3, sv3, hp3, rfl, hrel3, hH3, hK3, hb3⟩
  simp only at hb3
  cases hsame : sameR rsh sv sv3 with
  | false =>
    rw [hsame, cond_false] at hb3
    exact (deadX_ok hH3.ks (fun q hq => hH3.ext.facts q hq) hb3).elim
  | true =>
  clear hb3
  have hb3 := hsame
  simp only [sameR] at hb3
  split at hb3
  · rename_i es es3 hes hes3
    obtain ⟨m1, rfl⟩ := rsEs_ok hes hrel
    obtain ⟨m3, rfl⟩ := rsEs_ok hes3 hrel3
    have hF : Fof (xfn P tb orc lf n f0 (argsG ss rs) (hpF fk)) rsh ft args = es.map (E.den C'.V) := by
      unfold Fof; rw [hp]; simp only [hes, Option.getD_some]
    have e1 : es.map (E.den C3.V) = es.map (E.den C'.V) := den_map (C := C2) (C' := C3) hK3.le m1
    refine ⟨?_, hK3.belowN⟩
    rw [hF, ← e1, allEq_ok C3.V hb3]
  · cases hb3
end
/-! ### amo.New of four bytes -/
def nzK : Ks := [(.cmp .eql (.var (.ofNat 0) (.ofNat 8) 1) (.lit (.ofNat 4)), true)]
def nzE : List E := [.var (.negSucc 9223372036854775807) (.ofNat 9223372036854775807) 0, .lit (.ofNat 4), .var (.ofNat 0) (.ofNat 18446744073709551615) 2, fieldE (.var (.ofNat 0) (.ofNat 18446744073709551615) 3) 0 4294967295]
theorem nz_ran : ranB (xfn Tryz.prog tab.get sxfO 5000 100 138 (argsG [.one ci, .one ci, .one cu, .one cu] newRs) (hpF nzK)) (.tup [.one cu, .one ci]) [U, R 6] newRs [] = true := by kernel_rfl
theorem nz_same : ((xfn Tryz.prog tab.get sxfO 5000 100 138 (argsG [.one ci, .one ci, .one cu, .one cu] newRs) (hpF nzK)).every fun a => (xfn Tryz.prog tab.get sxfO 5000 100 138 ((shSVs [.one ci, .one ci, .one cu, .one cu] nzE).map .pv) (hpNext a.2)).every fun b => bif sameR (.tup [.one cu, .one ci]) a.1 b.1 then true else deadX b.2.gh.k b.2.gh.k) = true := by kernel_rfl
theorem new_low {a o x : Int} (hi : InB newRs [a, 4, o, x]) (w : World) : (InB newRs [a, 4, o, x % 4294967296] ∧ InB [U, R 6] (newF [a, 4, o, x % 4294967296])) ∧ Calls Tryz.prog 138 (shVs [.one ci, .one ci, .one cu, .one cu] [a, 4, o, x]).toArray w (Gives (rsV (.tup [.one cu, .one ci]) (newF [a, 4, o, x % 4294967296])) w) := by
  have hx := inB_get hi (i := 3) (r := U) rfl
  have hx0 : (0 : Int) ≤ x := hx.1
  have hx1 : x ≤ (18446744073709551615 : Int) := hx.2
  obtain ⟨k, rfl⟩ : ∃ k : Nat, x = k := ⟨x.toNat, by omega⟩
  have hi2 : InB newRs [a, 4, o, (k : Int) % 4294967296] := ⟨rfl, fun j q m hj hm => by
    match j with
    | 0 => exact hi.2 0 q m hj (by simpa using hm)
    | 1 => exact hi.2 1 q m hj (by simpa using hm)
    | 2 => exact hi.2 2 q m hj (by simpa using hm)
    | 3 =>
      cases hj; cases hm
      show (0 : Int) ≤ (k : Int) % 4294967296 ∧ (k : Int) % 4294967296 ≤ (18446744073709551615 : Int)
      omega
    | j + 4 => simp [newRs] at hj⟩
  have hk : KsOk (env0 [a, 4, o, (k : Int)]) nzK := fun q hq => by
    rw [List.mem_singleton.1 hq]
    rfl
  have t1 := (tells_of_run (ft := fun _ _ => []) tab_ok mixed (sxfO_ok _ _) (by decide) (by kernel_rfl) (by kernel_rfl) nz_ran [a, 4, o, (k : Int)] hi hk w).2
  have t2 := same_of_run4 (ft := fun _ _ => []) (es2 := nzE) tab_ok mixed (sxfO_ok _ _) (by decide) (by kernel_rfl) (fun V d hv e he => by
    have h0 : ∀ e ∈ vars 0 newRs, e.sc V d := hv
    simp only [nzE, List.mem_cons, List.not_mem_nil, or_false] at he
    rcases he with rfl | rfl | rfl | rfl
    · exact h0 _ (by simp [newRs, vars, II])
    · trivial
    · exact h0 _ (by simp [newRs, vars, U])
    · have h3 : (E.var (.ofNat 0) (.ofNat 18446744073709551615) 3).sc V d := h0 _ (by simp [newRs, vars, U])
      obtain ⟨s1, _⟩ := mkBin_ok .shr .u64 (b := .lit (.ofNat 0)) h3 trivial
      exact (mkBin_ok .and .u64 (b := .lit (.ofNat 4294967295)) s1 trivial).1) (and_bif nz_ran).1 nz_same hi hk w
  have e3 : (nzE.map (E.den (envA (fun _ _ => []) [a, 4, o, (k : Int)]))) = [a, 4, o, (k : Int) % 4294967296] := by
    have hf := fieldE_ok (V := envA (fun _ _ => []) [a, 4, o, (k : Int)]) (d := fun _ => True) (v := .var (.ofNat 0) (.ofNat 18446744073709551615) 3) ⟨trivial, hx0, hx1⟩ (n := k) rfl (by omega) (lo := 0) (b := 32) (by decide) (by decide)
    have hf2 := hf.2
    simp only [Nat.pow_zero, Nat.div_one] at hf2
    have hf3 : (fieldE (.var (.ofNat 0) (.ofNat 18446744073709551615) 3) 0 4294967295).den (envA (fun _ _ => []) [a, 4, o, (k : Int)]) = (k : Int) % 4294967296 := hf2.trans (by omega)
    simp only [nzE, List.map_cons, List.map_nil, hf3]
    rfl
  rw [e3] at t2
  have t3 := (new_tells _ hi2 (fun q hq => by cases hq) w)
  have e4 := gives_unique t2 t3.2 (by kernel_rfl)
  refine ⟨⟨hi2, t3.1.1⟩, ?_⟩
  rw [← e4]
  exact t1
/-- amo.New as a contract, of four bytes by the lowest of what is asked -/
def newZO : Orc := fun f args hp => match args with
  | [_, _, .pv (.one (.int .u64 (.lit _))), .pv (.one (.int .u64 (.lit _)))] => none
  | [.pv (.one (.int .i64 a)), .pv (.one (.int .i64 (.lit (.ofNat 4)))), .pv (.one (.int .u64 o)), .pv (.one (.int .u64 x))] =>
    bif Nat.beq f 138 then (bif inRs hp.gh.k newRs [a, .lit (.ofNat 4), o, x] then some (eK (fieldE x 0 4294967295) fun y => xlets hp 36 [a, .lit (.ofNat 4), o, y] [U, R 6] (fun _ => []) fun vs hp => svK (rsSV (.tup [.one cu, .one ci]) vs) fun v => .ret (v, hp)) else some (.bad "bounds of arguments")) else none
  | _ => newO f args hp
theorem newZO_ok (X : Ext) (ft : Ft) (hft : ft 36 = newF) : OrcOk Tryz.prog X ft newZO := by
  intro f args hp t h0 C w vs hC h hv
  unfold newZO at h0
  split at h0
  · cases h0
  · rename_i a o x _
    cases hb : Nat.beq f 138 with
    | false => rw [hb, cond_false] at h0; cases h0
    | true =>
    rw [hb, cond_true] at h0
    have hf : f = 138 := Nat.eq_of_beq_eq_true hb
    subst hf
    cases hin : inRs hp.gh.k newRs [a, .lit (.ofNat 4), o, x] with
    | false => rw [hin, cond_false] at h0; cases h0; exact CallOk.bad
    | true =>
    rw [hin, cond_true] at h0
    cases h0
    cases hv with
    | @cons _ v1 _ vs1 q1 q2 =>
    cases q2 with
    | @cons _ v2 _ vs2 q2 q3 =>
    cases q3 with
    | @cons _ v3 _ vs3 q3 q4 =>
    cases q4 with
    | @cons _ v4 _ vs4 q4 q5 =>
    cases q5
    obtain ⟨s1, rfl⟩ := q1
    obtain ⟨s2, rfl⟩ := q2
    obtain ⟨s3, rfl⟩ := q3
    obtain ⟨s4, rfl⟩ := q4
    have hm : ∀ e ∈ [a, .lit (.ofNat 4), o, x], e.sc C.V C.vd := fun e he => by
      simp only [List.mem_cons, List.not_mem_nil, or_false] at he
      rcases he with rfl | rfl | rfl | rfl
      · exact s1
      · exact s2
      · exact s3
      · exact s4
    have hI : InB newRs [a.den C.V, 4, o.den C.V, x.den C.V] := inRs_ok h.ks hin hm
    have hx := inB_get hI (i := 3) (r := U) rfl
    have hx0 : (0 : Int) ≤ x.den C.V := hx.1
    have hx1 : x.den C.V ≤ (18446744073709551615 : Int) := hx.2
    obtain ⟨k, hk⟩ : ∃ k : Nat, x.den C.V = k := ⟨(x.den C.V).toNat, by omega⟩
    have hf := fieldE_ok s4 hk (by omega) (lo := 0) (b := 32) (by decide) (by decide)
    have hf1 : (fieldE x 0 4294967295).sc C.V C.vd := hf.1
    have hf2 : (fieldE x 0 4294967295).den C.V = x.den C.V % 4294967296 := by
      have := hf.2
      simp only [Nat.pow_zero, Nat.div_one] at this
      rw [hk]
      exact Eq.trans this (by omega)
    obtain ⟨⟨hi2, k1⟩, k2⟩ := new_low hI w
    intro Φ hx
    rw [eK_eq] at hx
    have hm2 : ∀ e ∈ [a, .lit (.ofNat 4), o, fieldE x 0 4294967295], e.sc C.V C.vd := fun e he => by
      simp only [List.mem_cons, List.not_mem_nil, or_false] at he
      rcases he with rfl | rfl | rfl | rfl
      · exact s1
      · exact s2
      · exact s3
      · exact hf1
    have hd2 : [a, .lit (.ofNat 4), o, fieldE x 0 4294967295].map (E.den C.V) = [a.den C.V, 4, o.den C.V, x.den C.V % 4294967296] := by
      simp only [List.map_cons, List.map_nil, hf2]; rfl
    rw [← hft, ← hC.1, ← hd2] at k1 k2
    obtain ⟨C', hp', outs, n1, n2, n3, n4, n5, _⟩ := xlets_ok h hm2 k1 (fun C1 vs1 hle1 hs1 hd1 q hq => by cases hq) hx
    rw [svK_eq] at n5
    have k3 : Calls Tryz.prog 138 [Value.int .i64 (a.den C.V), .int .i64 ((E.lit (.ofNat 4)).den C.V), .int .u64 (o.den C.V), .int .u64 (x.den C.V)].toArray w (Gives (rsV (.tup [.one cu, .one ci]) (C.V.f 36 ([a, .lit (.ofNat 4), o, fieldE x 0 4294967295].map (E.den C.V)))) w) := k2
    refine k3.mono ?_
    rintro e w' ⟨rfl, hbel⟩
    obtain ⟨q1, q2⟩ := n1.below' hbel
    refine ⟨C', _, _, hp', rfl, ?_, q1, n2.trans q2, n5⟩
    rw [← n4]
    exact rsSV_rel _ n3
  · exact newO_ok X ft hft f args hp t h0 C w vs hC h hv
end
end Go.Proofs.YtkogjjeoihnjpaaGreat.Sx
end
section
set_option linter.unusedVariables false
set_option linter.unusedSimpArgs false
namespace Go.Proofs.YtkogjjeoihnjpaaGreat.Sx
open Go Go.RowKit
set_option maxRecDepth 100000
noncomputable section
def accOrcs : Orc := orcL [putOrc 48 999, pagesOrc 63 999, loadOrc 65 999, mayGO 77, trnO, devO, newZO, hldO]
def ftC (ct : Nat → Nat) : Ft := fun i => if i = 1 then wordF ct else if i = 2 then errF else if i = 3 then loadF ct else if i = 34 then mF trnF wnR.length ct else if i = 31 then devF else if i = 36 then newF else if i = 37 then hldF else if i = 38 then mayEF else fun _ => []
theorem accOrcs_ok (b n : Nat) (ct : Nat → Nat) : OrcOk Tryz.prog (ramX b n ct (pxM b)) (ftC ct) accOrcs := orcL_ok fun o ho => by
  simp only [List.mem_cons, List.not_mem_nil, or_false] at ho
  rcases ho with rfl | rfl | rfl | rfl | rfl | rfl | rfl | rfl
  · exact putOrc_ok (px999 b) (by simp [ftC])
  · exact pagesOrc_ok (px999 b)
  · exact loadOrc_ok (px999 b) (by simp [ftC])
  · exact mayGO_ok emay_g _ _ (by simp [ftC])
  · exact trnO_ok b n ct _ (by simp [ftC])
  · exact devO_ok _ _ (by simp [ftC])
  · exact newZO_ok _ _ (by simp [ftC])
  · exact hldO_ok _ _ (by simp [ftC])
/-- any access at all -/
def wnW : List (Int × Int) := [U, II, II, U, BB, II, BB] ++ hartV
/-- of a size between these -/
def wantS (q : Int × Int) : List (Int × Int) := [U, q, II, U, BB, II, BB] ++ hartV
def sz1 : Int × Int := (.ofNat 1, .ofNat 1)
def sz2 : Int × Int := (.ofNat 2, .ofNat 2)
def sz4 : Int × Int := (.ofNat 4, .ofNat 4)
def sz8 : Int × Int := (.ofNat 8, .ofNat 8)
def szA : Int × Int := (.negSucc 9223372036854775807, .ofNat 0)
def szB : Int × Int := (.ofNat 3, .ofNat 3)
def szC : Int × Int := (.ofNat 5, .ofNat 7)
def szD : Int × Int := (.ofNat 9, .ofNat 9223372036854775807)
def accT (q : Int × Int) : XR := mrun accOrcs 27 [.agg wantC] (wantS q) []
def accOrs : List (Int × Int) := gotR ++ [U, R 8, U, U, R 8, U]
theorem acc_ran1 : mranB (accT sz1) (.one (.agg gotC)) accOrs (wantS sz1) [] 2 = true := by kernel_rfl
theorem acc_ran2 : mranB (accT sz2) (.one (.agg gotC)) accOrs (wantS sz2) [] 2 = true := by kernel_rfl
theorem acc_ran4 : mranB (accT sz4) (.one (.agg gotC)) accOrs (wantS sz4) [] 2 = true := by kernel_rfl
theorem acc_ran8 : mranB (accT sz8) (.one (.agg gotC)) accOrs (wantS sz8) [] 2 = true := by kernel_rfl
theorem acc_ranA : mranB (accT szA) (.one (.agg gotC)) accOrs (wantS szA) [] 2 = true := by kernel_rfl
theorem acc_ranB : mranB (accT szB) (.one (.agg gotC)) accOrs (wantS szB) [] 2 = true := by kernel_rfl
theorem acc_ranC : mranB (accT szC) (.one (.agg gotC)) accOrs (wantS szC) [] 2 = true := by kernel_rfl
theorem acc_ranD : mranB (accT szD) (.one (.agg gotC)) accOrs (wantS szD) [] 2 = true := by kernel_rfl
def accFk (q : Int × Int) : (Nat → Nat) → List Int → List Int := MFof (accT q) (.one (.agg gotC)) 2 ftC
/-- by its size -/
def szOf (x : Int) : Int × Int := if x = 1 then sz1 else if x = 2 then sz2 else if x = 4 then sz4 else if x = 8 then sz8 else if x ≤ 0 then szA else if x = 3 then szB else if x ≤ 7 then szC else szD
def accF (ct : Nat → Nat) (args : List Int) : List Int := accFk (szOf (args.getD 1 0)) ct args
theorem wantS_in {args : List Int} {q : Int × Int} (h : InB wnW args) (h1 : q.1 ≤ args.getD 1 0) (h2 : args.getD 1 0 ≤ q.2) : InB (wantS q) args := by
  refine ⟨h.1, fun j r n hj hn => ?_⟩
  match j with
  | 0 => exact h.2 0 r n hj hn
  | 1 =>
    cases hj
    rw [List.getD, hn] at h1 h2
    exact ⟨h1, h2⟩
  | j + 2 => exact h.2 (j + 2) r n hj hn
theorem szOf_ok {args : List Int} (h : InB wnW args) {P : Int × Int → Prop} (a1 : P sz1) (a2 : P sz2) (a4 : P sz4) (a8 : P sz8) (aA : P szA) (aB : P szB) (aC : P szC) (aD : P szD) : P (szOf (args.getD 1 0)) ∧ InB (wantS (szOf (args.getD 1 0))) args := by
  have hb := inB_get h (i := 1) (r := II) rfl
  have h1 : (-9223372036854775808 : Int) ≤ args.getD 1 0 := hb.1
  have h2 : args.getD 1 0 ≤ (9223372036854775807 : Int) := hb.2
  unfold szOf
  split
  · rename_i e; exact ⟨a1, wantS_in h (show (1 : Int) ≤ _ by omega) (show _ ≤ (1 : Int) by omega)⟩
  split
  · rename_i e; exact ⟨a2, wantS_in h (show (2 : Int) ≤ _ by omega) (show _ ≤ (2 : Int) by omega)⟩
  split
  · rename_i e; exact ⟨a4, wantS_in h (show (4 : Int) ≤ _ by omega) (show _ ≤ (4 : Int) by omega)⟩
  split
  · rename_i e; exact ⟨a8, wantS_in h (show (8 : Int) ≤ _ by omega) (show _ ≤ (8 : Int) by omega)⟩
  split
  · rename_i e; exact ⟨aA, wantS_in h (show (-9223372036854775808 : Int) ≤ _ by omega) (show _ ≤ (0 : Int) by omega)⟩
  split
  · rename_i e; exact ⟨aB, wantS_in h (show (3 : Int) ≤ _ by omega) (show _ ≤ (3 : Int) by omega)⟩
  split
  · rename_i e; exact ⟨aC, wantS_in h (show (5 : Int) ≤ _ by omega) (show _ ≤ (7 : Int) by omega)⟩
  · exact ⟨aD, wantS_in h (show (9 : Int) ≤ _ by omega) (show _ ≤ (9223372036854775807 : Int) by omega)⟩
theorem getD_app1 {args : List Int} {x : Int} (h : 1 < args.length) : (args ++ [x]).getD 1 0 = args.getD 1 0 := by rw [List.getD, List.getElem?_append_left h, List.getD]
def AccTold (q : Int × Int) : Prop := MTells 27 [.agg wantC] (wantS q) [] (.one (.agg gotC)) accOrs [] 2 (accFk q)
theorem acc_told {q : Int × Int} (h : mranB (accT q) (.one (.agg gotC)) accOrs (wantS q) [] 2 = true) (hs : shN [Sh.agg wantC] ≤ (wantS q).length) : AccTold q := mtells_of_run accOrcs_ok (by show 73 ≤ 400; decide) rfl hs rfl h
theorem acc_tells : MTells 27 [.agg wantC] wnW [] (.one (.agg gotC)) accOrs [] 2 accF := by
  intro args hi hk w p b n cs ct S
  have hl : 1 < args.length := by rw [hi.1]; decide
  obtain ⟨h1, h2⟩ := szOf_ok hi (P := AccTold) (acc_told acc_ran1 (by decide)) (acc_told acc_ran2 (by decide)) (acc_told acc_ran4 (by decide)) (acc_told acc_ran8 (by decide)) (acc_told acc_ranA (by decide)) (acc_told acc_ranB (by decide)) (acc_told acc_ranC (by decide)) (acc_told acc_ranD (by decide))
  unfold accF
  rw [getD_app1 hl]
  exact h1 args h2 hk w p b n cs ct S
def accO : Orc := mtellOrc 27 22 999 [.agg wantC] wnW [] (.one (.agg gotC)) accOrs [] 2
theorem accO_ok (b n : Nat) (ct : Nat → Nat) (ft : Ft) (h : ft 22 = mF accF wnW.length ct) : OrcOk Tryz.prog (ramX b n ct (pxM b)) ft accO := mtellOrc_ok (px999 b) (by kernel_rfl) (by kernel_rfl) (by decide) acc_tells h
end
end Go.Proofs.YtkogjjeoihnjpaaGreat.Sx
end
section
set_option linter.unusedVariables false
namespace Go.Proofs.YtkogjjeoihnjpaaGreat.Sx
open Go Go.RowKit
set_option maxRecDepth 100000
/-! ### tappetref06.New -/
theorem newR_one : (xfn Tryz.prog tab.get sxfO 5000 100 138 (argsG [.one ci, .one ci, .one cu, .one cu] newRs) (hpF [])).one = true := by kernel_rfl
theorem newR_same : ((xfn Tryz.prog tab.get sxfO 5000 100 138 (argsG [.one ci, .one ci, .one cu, .one cu] newRs) (hpF [])).every fun a => (xfn Tryz.prog tab.get sxfO 5000 100 72 (argsG [.one ci, .one ci, .one cu, .one cu] newRs) (hpNext a.2)).every fun b => bif sameR (.tup [.one cu, .one ci]) a.1 b.1 then true else deadX b.2.gh.k b.2.gh.k) = true := by kernel_rfl
theorem newR_tells : Tells Tryz.prog 72 [.one ci, .one ci, .one cu, .one cu] newRs [] (.tup [.one cu, .one ci]) [U, R 6] [] newF := fun args hi hk w =>
  ⟨(new_tells args hi hk w).1, same_of_run2 (ft := fun _ _ => []) tab_ok mixed (sxfO_ok _ _) (by decide) (by kernel_rfl) newR_one newR_same hi hk w⟩
noncomputable def newRO : Orc := tellOrc 72 36 [.one ci, .one ci, .one cu, .one cu] newRs [] (.tup [.one cu, .one ci]) [U, R 6] []
theorem newRO_ok (X : Ext) (ft : Ft) (h : ft 36 = newF) : OrcOk Tryz.prog X ft newRO := tellOrc_ok (by kernel_rfl) (by kernel_rfl) (by rw [h]; exact newR_tells)
/-! ### tappetref06.Holds -/
theorem hldR_one : (xfn Tryz.prog tab.get sxfO 5000 100 150 (argsG [.agg hartC, .one cu] hldRs) (hpF [])).one = true := by kernel_rfl
theorem hldR_same : ((xfn Tryz.prog tab.get sxfO 5000 100 150 (argsG [.agg hartC, .one cu] hldRs) (hpF [])).every fun a => (xfn Tryz.prog tab.get sxfO 5000 100 71 (argsG [.agg hartC, .one cu] hldRs) (hpNext a.2)).every fun b => sameR (.one (.one cb)) a.1 b.1) = true := by kernel_rfl
theorem hldR_tells : Tells Tryz.prog 71 [.agg hartC, .one cu] hldRs [] (.one (.one cb)) [BB] [] hldF := fun args hi hk w =>
  ⟨(hld_tells args hi hk w).1, same_of_run (ft := fun _ _ => []) tab_ok mixed (sxfO_ok _ _) (by decide) (by kernel_rfl) hldR_one hldR_same hi hk w⟩
noncomputable def hldRO : Orc := tellOrc 71 37 [.agg hartC, .one cu] hldRs [] (.one (.one cb)) [BB] []
theorem hldRO_ok (X : Ext) (ft : Ft) (h : ft 37 = hldF) : OrcOk Tryz.prog X ft hldRO := tellOrc_ok (by kernel_rfl) (by kernel_rfl) (by rw [h]; exact hldR_tells)
end Go.Proofs.YtkogjjeoihnjpaaGreat.Sx
end
