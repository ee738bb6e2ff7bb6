/- effect.Do told by a function on numbers: a hart that may be, again; what the record is. No condition. A machine's step: its run on terms. No condition. -/
import Derived.Test.YtkogjjeoihnjpaaGreatPack22
import Derived.Test.YtkogjjeoihnjpaaGreatPack23
import Derived.Test.YtkogjjeoihnjpaaGreatPack24
import Derived.Test.YtkogjjeoihnjpaaGreatPack25
import Derived.Test.YtkogjjeoihnjpaaGreatPack26
import Derived.Test.YtkogjjeoihnjpaaGreatPack27
import Derived.Test.YtkogjjeoihnjpaaGreatPack28
import Derived.Test.YtkogjjeoihnjpaaGreatPack29
import Derived.Test.YtkogjjeoihnjpaaGreatPack30
import Derived.Test.YtkogjjeoihnjpaaGreatPack31
import Derived.Test.YtkogjjeoihnjpaaGreatPack32
import Derived.KernelRfl
import Derived.Test.YtkogjjeoihnjpaaGreatPack16
import Derived.Test.YtkogjjeoihnjpaaGreatPack43
section
set_option linter.unusedVariables false
namespace Go.Proofs.YtkogjjeoihnjpaaGreat.Sx
open Go Go.RowKit
set_option maxRecDepth 100000
theorem do_cases {fk : Ks} {i m : Nat} {u : Int} (hr : doRs[i]? = some (.ofNat 0, u)) (hu : u ≤ m) (h : ∀ j, j ≤ m → ∃ F, doS (fk ++ [(.cmp .eql (.var (.ofNat 0) u i) (.lit (.ofNat j)), true)]) F) : ∃ F, doS fk F := by
  have h' : ∀ j, ∃ F, j ≤ m → doS (fk ++ [(.cmp .eql (.var (.ofNat 0) u i) (.lit (.ofNat j)), true)]) F := fun j =>
    if hj : j ≤ m then (h j hj).imp fun F hF _ => hF else ⟨fun _ => [], fun k => absurd k hj⟩
  have : ∃ F : Nat → List Int → List Int, ∀ j, j ≤ m → doS (fk ++ [(.cmp .eql (.var (.ofNat 0) u i) (.lit (.ofNat j)), true)]) (F j) :=
    ⟨fun j => Classical.choose (h' j), fun j hj => Classical.choose_spec (h' j) hj⟩
  obtain ⟨F, hF⟩ := this
  exact ⟨_, Tells.cases hr hu hF⟩
theorem do13 : ∃ F, doS (mayK ++ [opK 13]) F := do_cases (i := 1) (m := 3) (u := .ofNat 3) rfl (by decide) fun j hj => by
  match j, hj with
  | 0, _ => exact do13_0
  | 1, _ => exact do13_1
  | 2, _ => exact do13_2
  | 3, _ => exact do13_3
  | j + 4, hj => omega
theorem do_ex : ∃ F, doS mayK F := do_cases (i := 66) (m := 22) (u := .ofNat 22) rfl (by decide) fun j hj => by
  match j, hj with
  | 0, _ => exact do0
  | 1, _ => exact do1
  | 2, _ => exact do2
  | 3, _ => exact do3
  | 4, _ => exact do4
  | 5, _ => exact do5
  | 6, _ => exact do6
  | 7, _ => exact do7
  | 8, _ => exact do8
  | 9, _ => exact do9
  | 10, _ => exact do10
  | 11, _ => exact do11
  | 12, _ => exact do12
  | 13, _ => exact do13
  | 14, _ => exact do14
  | 15, _ => exact do15
  | 16, _ => exact do16
  | 17, _ => exact do17
  | 18, _ => exact do18
  | 19, _ => exact do19
  | 20, _ => exact do20
  | 21, _ => exact do21
  | 22, _ => exact do22
  | j + 23, hj => omega
noncomputable def doF : List Int → List Int := Classical.choose do_ex
theorem do_tells : doS mayK doF := Classical.choose_spec do_ex
noncomputable def doO : Orc := tellOrc 45 21 [.agg hartC, .agg workC, .agg envC] doRs mayK (.tup [.agg hartC, .agg recC]) (hartR ++ recD) doK
theorem doO_ok (X : Ext) (ft : Ft) (h : ft 21 = doF) : OrcOk Tryz.prog X ft doO := tellOrc_ok (by kernel_rfl) (by kernel_rfl) (by rw [h]; exact do_tells)
end Go.Proofs.YtkogjjeoihnjpaaGreat.Sx
end
section
set_option linter.unusedVariables false
set_option linter.unusedSimpArgs false
namespace Go.Proofs.YtkogjjeoihnjpaaGreat.Sx
open Go Go.RowKit
set_option maxRecDepth 100000
noncomputable section
def stpOrcs : Orc := orcL [selO, accO, decFork, rckO, doO, entO]
def ftS (ct : Nat → Nat) : Ft := fun i => if i = 11 then selF else if i = 22 then mF accF wantR.length ct else if i = 16 then decF else if i = 13 then rckF else if i = 21 then doF else if i = 15 then entF else fun _ => []
theorem stpOrcs_ok (b n : Nat) (ct : Nat → Nat) : OrcOk Tryz.prog (ramX b n ct (pxM b)) (ftS ct) stpOrcs := orcL_ok fun o ho => by
  simp only [List.mem_cons, List.not_mem_nil, or_false] at ho
  rcases ho with rfl | rfl | rfl | rfl | rfl | rfl
  · exact selO_ok _ _ (by simp [ftS])
  · exact accO_ok b n ct _ (by simp [ftS])
  · exact decFork_ok _ _ (by simp [ftS])
  · exact rckO_ok _ _ (by simp [ftS])
  · exact doO_ok _ _ (by simp [ftS])
  · exact entO_ok _ _ (by simp [ftS])
def stpRs : List (Int × Int) := hartR ++ envR
def hrow : List SC := cksSC hartC (vars 0 hartR)
def stpT : XR := xfn Tryz.prog tab.get stpOrcs 5000 100 16 (argsD [.agg envC] 66 (stpRs ++ [nR])) (hpM hrow mayK 76)
/-- the hart, the record, the words put -/
def souts (a : SV × Hp) : Option (List E) :=
  match hget a.2.H 900 with
  | some (.cells row T es false) => bif Nat.beq T 94 then (match cksE hartC (row.take 66), rsEs (.one (.agg recC)) a.1, a.2.gh.m with
    | some h, some r, _ :: q => (padP 4 q).map fun l => (h ++ r) ++ l
    | _, _, _ => none) else none
  | _ => none
def putR : List (Int × Int) := [U, R 8, U]
def stpOrs : List (Int × Int) := hartR ++ recR ++ (putR ++ putR ++ putR ++ putR)
/-- the counter of instructions goes on as it must, but where the word (68) is an access to it (hart before: from 90 on) -/
def cntW0 : E := .cmp .eql (.pl .rem (.var (.ofNat 0) (.ofNat 4294967295) 68) (ln 128)) (ln 115)
def cntW1 : E := .cmp .neq (.pl .rem (.pl .quo (.var (.ofNat 0) (.ofNat 4294967295) 68) (ln 4096)) (ln 4)) (ln 0)
def cntW2 : E := .cmp .eql (.pl .quo (.var (.ofNat 0) (.ofNat 4294967295) 68) (ln 1048576)) (ln 2818)
def cntW : E := .ite cntW0 (.ite cntW1 cntW2 (.tt false)) (.tt false)
def cntK : E × Bool := (.ite cntW (.tt true) (cntY 142 52 (.var (.ofNat 0) (.ofNat 1) 69)), true)
/-- what is known behind a step: a hart that may be; of the record (its cycle: number 66 of what was there, 156 behind what comes out) -/
def stpK : Ks := mayK ++ ((.cmp .eql (vu 66) (vu 156), true) :: recK.tail) ++ [cntK]
def ramCell (a : SV × Hp) : Bool :=
  match hget a.2.H 900 with
  | some (.cells row _ _ false) => (match row.drop 66 with
    | [.ext i] => Nat.beq i 999
    | _ => false)
  | _ => false
/-- what a variable is known to be -/
def canV (e : E) : Ks → E
  | [] => e
  | (.cmp .eql (.var _ _ j) t, true) :: r => (match e with
    | .var _ _ i => bif Nat.beq i j then t else canV e r
    | _ => e)
  | _ :: r => canV e r
theorem canV_ok {V : Env} {d : Nat → Prop} {e : E} (he : e.sc V d) : ∀ {k : Ks}, (∀ q ∈ k, q.1.sc V d ∧ q.1.tr V = q.2) → (canV e k).sc V d ∧ (canV e k).den V = e.den V
  | [], _ => ⟨he, rfl⟩
  | q :: r, hk => by
    have hr := canV_ok (e := e) he (k := r) fun x hx => hk x (List.mem_cons_of_mem _ hx)
    unfold canV
    split
    · rename_i heq; cases heq
    · rename_i lo hi j t r' heq
      cases heq
      split
      · rename_i lo' hi' i
        cases hb : Nat.beq i j with
        | true =>
          rw [cond_true]
          have hij : i = j := Nat.eq_of_beq_eq_true hb
          subst hij
          obtain ⟨h1, h2⟩ := hk _ List.mem_cons_self
          refine ⟨h1.2, ?_⟩
          simp only [tr_cmp, cmpD, beq_iff_eq, den_var] at h2
          rw [← h2, den_var]
        | false => rw [cond_false]; exact hr
      · exact ⟨he, rfl⟩
    · rename_i heq; cases heq; exact hr
/-- the record's word told by what it is known to be -/
def wordS (es : List E) (k : Ks) : List E := es.set 68 (canV (es.getD 68 (.lit (.ofNat 0))) k)
theorem wordS_ok {V : Env} {d : Nat → Prop} {es : List E} {k : Ks} (hs : ∀ e ∈ es, e.sc V d) (hk : ∀ q ∈ k, q.1.sc V d ∧ q.1.tr V = q.2) : (∀ e ∈ wordS es k, e.sc V d) ∧ (wordS es k).map (E.den V) = es.map (E.den V) ∧ (wordS es k).length = es.length := by
  unfold wordS
  by_cases hl : 68 < es.length
  · have e1 : es.getD 68 (.lit (.ofNat 0)) = es[68] := by simp [List.getD, hl]
    rw [e1]
    obtain ⟨h1, h2⟩ := canV_ok (hs _ (List.getElem_mem hl)) hk
    refine ⟨fun e he => ?_, ?_, by simp⟩
    · rcases List.mem_or_eq_of_mem_set he with he | rfl
      · exact hs e he
      · exact h1
    · rw [List.map_set, h2]
      refine List.ext_getElem (by simp) fun i h3 h4 => ?_
      rw [List.getElem_set]
      split
      · rename_i hi; subst hi; simp
      · rfl
  · rw [List.set_eq_of_length_le (by omega)]
    exact ⟨hs, rfl, rfl⟩
/-- the counter of instructions, by what is known as it stands -/
def cntB (k : Ks) (σ : List E) : Bool :=
  bif anyI k ((cntY 142 52 (.var (.ofNat 0) (.ofNat 1) 69)).sb σ) k then true else
  bif (bif anyI k (cntW0.sb σ) k then (bif anyI k (cntW1.sb σ) k then anyI k (cntW2.sb σ) k else false) else false) then true else
  match lkC k ((E.cmp .eql (.var (.ofNat 0) (.ofNat 1) 69) (ln 1)).sb σ), lkC k ((E.cmp .eql (vu 53) (vu 143)).sb σ) with
  | some true, some true => true
  | _, _ => false
theorem cntB_ok {V : Env} {k : Ks} (hk : KsOk V k) {σ : List E} (h : cntB k σ = true) : (cntK.1.sb σ).tr V = true := by
  have e : cntK.1.sb σ = .ite (.ite (cntW0.sb σ) (.ite (cntW1.sb σ) (cntW2.sb σ) (.tt false)) (.tt false)) (.tt true) ((cntY 142 52 (.var (.ofNat 0) (.ofNat 1) 69)).sb σ) := rfl
  have e2 : (cntY 142 52 (.var (.ofNat 0) (.ofNat 1) 69)).sb σ = .ite ((E.cmp .eql (bit2 142) (bit2 52)).sb σ) (.ite ((E.cmp .eql (.var (.ofNat 0) (.ofNat 1) 69) (ln 1)).sb σ) ((E.cmp .eql (vu 53) (vu 143)).sb σ) (.ite ((E.cmp .eql (bit2 142) (ln 1)).sb σ) ((E.cmp .eql (vu 53) (vu 143)).sb σ) ((E.cmp .eql (vu 53) (.bin .add .u64 (vu 143) (ln 1))).sb σ))) (.tt true) := rfl
  rw [e, tr_ite]
  unfold cntB at h
  cases h1 : anyI k ((cntY 142 52 (.var (.ofNat 0) (.ofNat 1) 69)).sb σ) k with
  | true => rw [anyI_ok hk hk h1]; split <;> rfl
  | false =>
    rw [h1, cond_false] at h
    cases h2 : (bif anyI k (cntW0.sb σ) k then (bif anyI k (cntW1.sb σ) k then anyI k (cntW2.sb σ) k else false) else false) with
    | true =>
      obtain ⟨a0, h2⟩ := and_bif h2
      obtain ⟨a1, a2⟩ := and_bif h2
      rw [tr_ite, tr_ite, anyI_ok hk hk a0, anyI_ok hk hk a1, anyI_ok hk hk a2]; rfl
    | false =>
      rw [h2, cond_false] at h
      split at h
      · rename_i b0 b1
        have hy : ((cntY 142 52 (.var (.ofNat 0) (.ofNat 1) 69)).sb σ).tr V = true := by
          rw [e2, tr_ite]
          split
          · rw [tr_ite, lkC_ok hk b0, if_pos rfl]; exact lkC_ok hk b1
          · rfl
        rw [hy]
        split <;> rfl
      · cases h
def sres1 (a : SV × Hp) : Bool :=
  match souts a with
  | some es => bif inRs a.2.gh.k stpOrs es then (bif holdsB a.2.gh.k (wordS es a.2.gh.k ++ vars 0 stpRs) mayK then ramCell a else false) else false
  | none => false
def sres2 (a : SV × Hp) : Bool :=
  match souts a with
  | some es => holdsB a.2.gh.k (wordS es a.2.gh.k ++ vars 0 stpRs) ((.cmp .eql (vu 66) (vu 156), true) :: recK.tail)
  | none => false
def sres3 (a : SV × Hp) : Bool :=
  match souts a with
  | some es => cntB a.2.gh.k (wordS es a.2.gh.k ++ vars 0 stpRs)
  | none => false
def sresB (a : SV × Hp) : Bool := bif sres1 a then (bif sres2 a then sres3 a else false) else false
theorem holdsB_app {k : Ks} {σ : List E} : ∀ {o o' : Ks}, holdsB k σ o = true → holdsB k σ o' = true → holdsB k σ (o ++ o') = true
  | [], _, _, h => h
  | (e, b) :: r, o', h, h' => by
    unfold holdsB at h
    show holdsB k σ ((e, b) :: (r ++ o')) = true
    unfold holdsB
    split at h
    · rename_i x hx
      obtain ⟨h1, h2⟩ := and_bif h
      simp only [hx, h1, cond_true]
      exact holdsB_app h2 h'
    · cases h
theorem sresB_ok {a : SV × Hp} (h : sresB a = true) : ∃ es, souts a = some es ∧ inRs a.2.gh.k stpOrs es = true ∧ holdsB a.2.gh.k (wordS es a.2.gh.k ++ vars 0 stpRs) (mayK ++ ((.cmp .eql (vu 66) (vu 156), true) :: recK.tail)) = true ∧ cntB a.2.gh.k (wordS es a.2.gh.k ++ vars 0 stpRs) = true ∧ ramCell a = true := by
  obtain ⟨h1, h⟩ := and_bif h
  obtain ⟨h2, h3⟩ := and_bif h
  unfold sres1 at h1
  unfold sres2 at h2
  unfold sres3 at h3
  split at h1
  · rename_i es hes
    rw [hes] at h2 h3
    obtain ⟨k1, k2⟩ := and_bif h1
    obtain ⟨k2, k3⟩ := and_bif k2
    exact ⟨es, hes, k1, holdsB_app k2 h2, h3, k3⟩
  · cases h1
end
end Go.Proofs.YtkogjjeoihnjpaaGreat.Sx
end
