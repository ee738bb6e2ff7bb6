/- A law's function run whole on terms, memories made while it runs. No condition. A law's function run whole on terms: its answer is known by what was decided. No condition. -/
import Derived.Test.YtkogjjeoihnjpaaGreatPack47
import Derived.Test.YtkogjjeoihnjpaaGreatPack39
section
set_option linter.unusedVariables false
set_option linter.unusedSimpArgs false
namespace Go.Proofs.YtkogjjeoihnjpaaGreat.Sx
open Go Go.RowKit
set_option maxRecDepth 100000
noncomputable section
def hpN (fk : Ks) : Hp := ⟨[], 1000, 1606938044258990275541962092341162602522202993782792835301376, [], ⟨fk, [], []⟩⟩
def ctxN (ft : Ft) (args : List Int) : Ctx := ⟨envA ft args, fun i => i < 1000, fun _ => none, memsX, fun _ => False, fun _ => False⟩
theorem ctxN_is (ft : Ft) (args : List Int) : (ctxN ft args).Is memsX ft := ⟨rfl, rfl, fun _ _ h => nomatch h⟩
theorem hrelN {ft : Ft} {args : List Int} {rs : List (Int × Int)} {fk : Ks} (h : InB rs args) (hl : rs.length ≤ 1000) (hf : fk.all (fun q => scB rs q.1) = true) (hk : KsOk (env0 args) fk) (w : World) : HRel (ctxN ft args) (hpN fk) w :=
  ⟨⟨fun b blk h => by simp [hpN, hget] at h, fun b b' blk blk' g c c' h => by simp [hpN, hget] at h⟩,
   ⟨⟨[], rfl, ⟨(fun m hm => nomatch hm), (fun m hm => nomatch hm), (fun i j m m' hi => by simp at hi), fun g => ⟨(fun h => h.elim), fun ⟨m, hm, _⟩ => nomatch hm⟩⟩⟩, (fun _ h => nomatch h), fun q hq => ⟨scB_ok h (fun i hi => by show i < 1000; omega) (List.all_eq_true.1 hf q hq), hk.env q hq⟩, (fun _ h => nomatch h)⟩,
   (fun b blk g c h => by simp [hpN, hget] at h), (fun b blk g c h => by simp [hpN, hget] at h), fun b hb => ⟨rfl, fun h => by
    rcases hb with ⟨h1, _⟩ | ⟨r, hr, _⟩
    · simp only [hpN] at h1; exact absurd h (by show ¬ b < 1000; omega)
    · simp [hpN] at hr⟩, fun b g c h => nomatch h⟩
/-- a law that the run says is true -/
theorem law_of_run {f0 : FuncId} {orc : Orc} {ft : Ft} (ho : OrcOk Tryz.prog memsX ft orc) {rs : List (Int × Int)} {fk : Ks} {args : List Int} (hi : InB rs args) (hl : rs.length ≤ 1000) (hf : fk.all (fun q => scB rs q.1) = true) (hk : KsOk (env0 args) fk)
    {svs : List SV} {vs : List Value} (hrel : All2 (SV.rel (ctxN ft args)) svs vs) (hr : (xfn Tryz.prog tab.get orc 5000 100 f0 svs (hpN fk)).every (fun a => a.1.isB true) = true) (w : World) :
    Calls Tryz.prog f0 vs.toArray w (Gives (.bool true) w) := by
  refine (xfn_ok (X := memsX) (ft := ft) tab_ok ho mixed 5000 100 f0 svs (hpN fk) (ctxN ft args) w vs (ctxN_is ft args) (hrelN hi hl hf hk w) hrel (fun _ a => a.1.isB true = true) (T.every_holds hr)).mono ?_
  rintro e w' ⟨C', v, sv, hp', rfl, hrel', hH, hK, hb⟩
  have := SV.isB_ok hb
  simp only at this
  subst this
  exact ⟨by rw [hrel'.2]; rfl, ⟨hK.os, hK.tape, hK.output, hK.size, fun k hk => hK.keep k hk (fun e => e) (fun e => e)⟩⟩
theorem InB.cons {l u : Int} {rs : List (Int × Int)} {n : Int} {ns : List Int} (h : l ≤ n ∧ n ≤ u) (k : InB rs ns) : InB ((l, u) :: rs) (n :: ns) := by
  refine ⟨by simp [k.1], fun j r m hj hm => ?_⟩
  cases j with
  | zero => simp at hj hm; subst hj; subst hm; exact h
  | succ j => exact k.2 j r m (by simpa using hj) (by simpa using hm)
theorem InB.nil : InB [] [] := ⟨rfl, fun j r n h => by simp at h⟩
theorem InB.app {rs rs' : List (Int × Int)} {l l' : List Int} (h : InB rs l) (h' : InB rs' l') : InB (rs ++ rs') (l ++ l') := by
  refine ⟨by simp [h.1, h'.1], fun j q m hj hm => ?_⟩
  by_cases hl : j < rs.length
  · rw [List.getElem?_append_left hl] at hj
    rw [List.getElem?_append_left (by rw [h.1]; exact hl)] at hm
    exact h.2 j q m hj hm
  · rw [List.getElem?_append_right (by omega)] at hj
    rw [List.getElem?_append_right (by rw [h.1]; omega)] at hm
    rw [h.1] at hm
    exact h'.2 (j - rs.length) q m hj hm
def I64R : Int × Int := (Int.negSucc 9223372036854775807, .ofNat 9223372036854775807)
theorem getD_app {h more : List Int} (j : Nat) (hl : h.length = 66) : (h ++ more).getD (66 + j) 0 = more.getD j 0 := by
  rw [List.getD, List.getD, List.getElem?_append_right (by omega), hl, show 66 + j - 66 = j by omega]
/-! ### arguments as terms -/
def u64v (i : Nat) : E := .var (.ofNat 0) (.ofNat 18446744073709551615) i
def i64v (i : Nat) : E := .var (Int.negSucc 9223372036854775807) (.ofNat 9223372036854775807) i
/-- any hart -/
def hartW : List (Int × Int) := [U, I64R] ++ reps 62 U ++ [BB, U]
def hartS : SV := .pv (.agg (cksSC hartC (vars 0 hartW)))
def uS (i : Nat) : SV := .pv (.one (.int .u64 (u64v i)))
def iS (i : Nat) : SV := .pv (.one (.int .i64 (i64v i)))
def bS (b : Bool) : SV := .pv (.one (.bool (.tt b)))
/-- an int of which the rest at a division by n is j -/
def restT (n j i : Nat) : E := .cast .i64 (.pl .add (.pl .mul (.var (.ofNat 0) (.ofNat (18446744073709551615 / n)) i) (.lit (.ofNat n))) (.lit (.ofNat j)))
def restS (n j i : Nat) : SV := .pv (.one (.int .i64 (restT n j i)))
section
variable {ft : Ft} {args : List Int}
theorem hartS_rel {h : List Int} {more : List Int} (hh : InB hartW h) : hartS.rel (ctxN ft (h ++ more)) (.agg (cksV hartC h).toArray) := by
  have hs : ∀ e ∈ vars 0 hartW, e.sc (ctxN ft (h ++ more)).V (ctxN ft (h ++ more)).vd := fun e he => by
    obtain ⟨j, r, h1, rfl⟩ := vars_get he
    have hj : j < hartW.length := (List.getElem?_eq_some_iff.1 h1).1
    have hj66 : j < 66 := hj
    have hb := inB_get hh h1
    simp only [Nat.zero_add]
    have hv : (ctxN ft (h ++ more)).V.i j = h.getD j 0 := by
      show (h ++ more).getD j 0 = _
      rw [List.getD, List.getD, List.getElem?_append_left (by have := hh.1; have : hartW.length = 66 := rfl; omega)]
    exact ⟨show j < 1000 by omega, by rw [hv]; exact hb.1, by rw [hv]; exact hb.2⟩
  have hd : (vars 0 hartW).map (E.den (ctxN ft (h ++ more)).V) = h := vars_den hh.1 fun j m hj => by
    show (h ++ more).getD (0 + j) 0 = m
    rw [Nat.zero_add, List.getD, List.getElem?_append_left (List.getElem?_eq_some_iff.1 hj).1, hj]; rfl
  have := cksSC_rel (C := ctxN ft (h ++ more)) hartC hs
  rw [hd] at this
  exact ⟨_, this, rfl⟩
theorem uS_rel {i : Nat} {n : Int} (hi : i < 1000) (hn : args.getD i 0 = n) (h0 : 0 ≤ n) (h1 : n ≤ 18446744073709551615) : (uS i).rel (ctxN ft args) (.int .u64 n) :=
  ⟨⟨hi, by show Int.ofNat 0 ≤ args.getD i 0; rw [hn]; exact h0, by show args.getD i 0 ≤ _; rw [hn]; exact h1⟩, by show _ = Value.int .u64 (args.getD i 0); rw [hn]⟩
theorem iS_rel {i : Nat} {n : Int} (hi : i < 1000) (hn : args.getD i 0 = n) (h0 : -9223372036854775808 ≤ n) (h1 : n ≤ 9223372036854775807) : (iS i).rel (ctxN ft args) (.int .i64 n) :=
  ⟨⟨hi, by show Int.negSucc 9223372036854775807 ≤ args.getD i 0; rw [hn]; exact h0, by show args.getD i 0 ≤ _; rw [hn]; exact h1⟩, by show _ = Value.int .i64 (args.getD i 0); rw [hn]⟩
theorem bS_rel (b : Bool) : (bS b).rel (ctxN ft args) (.bool b) := ⟨trivial, rfl⟩
theorem restS_rel {n i : Nat} {k : Int} (hn : 0 < n) (hi : i < 1000) (hq : args.getD i 0 = IntKind.u64.wrap k / n) (h0 : -9223372036854775808 ≤ k) (h1 : k ≤ 9223372036854775807) : (restS n (IntKind.u64.wrap k % n).toNat i).rel (ctxN ft args) (.int .i64 k) := by
  have hw : 0 ≤ IntKind.u64.wrap k ∧ IntKind.u64.wrap k ≤ 18446744073709551615 := by rw [IntKind.wrap_u64]; omega
  have hwk : IntKind.i64.wrap (IntKind.u64.wrap k) = k := by rw [IntKind.wrap_u64, IntKind.wrap_i64]; omega
  generalize IntKind.u64.wrap k = u at *
  have hn' : (0 : Int) < n := by omega
  have hr : 0 ≤ u % n := Int.emod_nonneg _ (by omega)
  have hd : 0 ≤ u / n := Int.ediv_nonneg hw.1 (by omega)
  have hle : u / n ≤ ((18446744073709551615 / n : Nat) : Int) := by
    rw [Int.natCast_ediv]
    exact Int.ediv_le_ediv hn' hw.2
  refine ⟨⟨⟨⟨hi, by show Int.ofNat 0 ≤ args.getD i 0; rw [hq]; exact hd, by show args.getD i 0 ≤ _; rw [hq]; exact hle⟩, trivial⟩, trivial⟩, ?_⟩
  show Value.int .i64 k = Value.int .i64 (IntKind.i64.wrap (args.getD i 0 * Int.ofNat n + Int.ofNat (u % n).toNat))
  rw [hq]
  have : u / n * Int.ofNat n + Int.ofNat (u % n).toNat = u := by
    rw [Int.ofNat_eq_natCast, Int.ofNat_eq_natCast, Int.toNat_of_nonneg hr, Int.mul_comm]
    exact Int.mul_ediv_add_emod u n
  rw [this, hwk]
end
/-! ### words of instructions -/
def il (n : Nat) : SC := SC.int .i64 (.lit (.ofNat n))
def instS (op fn rd rs1 rs2 imm size : Nat) (sg : Bool) : SV := .pv (.agg [il op, il fn, il rd, il rs1, il rs2, SC.int .u64 (.lit (.ofNat imm)), il size, SC.bool (.tt sg), SC.bool (.tt false), SC.bool (.tt false), il 0])
def wS (w : Nat) : SV := .pv (.one (.int .u32 (.lit (.ofNat w))))
def encT (i : SV) (w : Nat) : Bool := (xfn Tryz.prog tab.get noOrc 5000 100 21 [i] hp1).every (fun a => svSame a.1 (wS w))
def encO (i : SV) (w : Nat) : Orc := memoV 21 [i] (wS w)
theorem encO_ok {i : SV} {w : Nat} (hs : ([i].all SV.shut && (wS w).shut) = true) (h : encT i w = true) (X : Ext) (ft : Ft) : OrcOk Tryz.prog X ft (encO i w) := memoV_ok tab_ok mixed (fun X ft => noOrc_ok _ X ft) hs h X ft
def lawOrcs (l : List Orc) : Orc := orcOr memOrcs (orcOr mayO (orcOr awOrc (orcL l)))
theorem lawOrcs_ok {ft : Ft} {l : List Orc} (h : ∀ o ∈ l, OrcOk Tryz.prog memsX ft o) : OrcOk Tryz.prog memsX ft (lawOrcs l) := orcOr_ok (memOrcs_ok ft) (orcOr_ok (mayO_ok _ _) (orcOr_ok (awOrc_ok _ _) (orcL_ok h)))
end
end Go.Proofs.YtkogjjeoihnjpaaGreat.Sx
end
section
set_option linter.unusedVariables false
set_option linter.unusedSimpArgs false
namespace Go.Proofs.YtkogjjeoihnjpaaGreat.Sx
open Go Go.RowKit
set_option maxRecDepth 100000
theorem law_of_run2 {f0 : FuncId} {orc : Orc} {ft : Ft} (ho : OrcOk Tryz.prog memsX ft orc) {rs : List (Int × Int)} {fk : Ks} {args : List Int} (hi : InB rs args) (hl : rs.length ≤ 1000) (hf : fk.all (fun q => scB rs q.1) = true) (hk : KsOk (env0 args) fk)
    {svs : List SV} {vs : List Value} (hrel : All2 (SV.rel (ctxN ft args)) svs vs) (hr : (xfn Tryz.prog tab.get orc 5000 100 f0 svs (hpN fk)).every (isB' true) = true) (w : World) :
    Calls Tryz.prog f0 vs.toArray w (Gives (.bool true) w) := by
  refine (xfn_ok (X := memsX) (ft := ft) tab_ok ho mixed 5000 100 f0 svs (hpN fk) (ctxN ft args) w vs (ctxN_is ft args) (hrelN hi hl hf hk w) hrel (fun _ a => isB' true a = true) (T.every_holds hr)).mono ?_
  rintro e w' ⟨C', v, sv, hp', rfl, hrel', hH, hK, hb⟩
  exact ⟨by rw [isB'_ok hb hrel' hH], ⟨hK.os, hK.tape, hK.output, hK.size, fun k hk => hK.keep k hk (fun e => e) (fun e => e)⟩⟩
end Go.Proofs.YtkogjjeoihnjpaaGreat.Sx
end
