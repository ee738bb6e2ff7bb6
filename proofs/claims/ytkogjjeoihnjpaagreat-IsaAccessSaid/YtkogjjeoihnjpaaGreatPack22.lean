/- Some ways of a run hold. No condition. Some ways of a run hold. No condition. Some ways of a run hold. No condition. All ways of a run hold. No condition. Where an access goes: the document's machine answers as the program's. No condition. What an atomic access is made of, told by functions on numbers. No condition. Whether any hart may be: the program's and the document's May, two ways, with what is known of one that may. No condition. Some ways of a run hold. No condition. -/
import Derived.Test.YtkogjjeoihnjpaaGreatPack20
import Derived.KernelRfl
import Derived.Test.YtkogjjeoihnjpaaGreatPack21
import Derived.Test.YtkogjjeoihnjpaaGreatPack8
import Derived.Test.YtkogjjeoihnjpaaGreatPack9
import Derived.Test.YtkogjjeoihnjpaaGreatPack10
import Derived.Test.YtkogjjeoihnjpaaGreatPack15
import Derived.Test.YtkogjjeoihnjpaaGreatPack13
import Derived.Test.YtkogjjeoihnjpaaGreatPack19
section
set_option linter.unusedVariables false
namespace Go.Proofs.YtkogjjeoihnjpaaGreat.Sx
open Go Go.RowKit
set_option maxRecDepth 100000
theorem whr_same_tfftttfffff : (T.go [true, false, false, true, true, true, false, false, false, false, false] trnT).every whrP = true := by kernel_rfl
theorem whr_same_tfftttfffftfffft : (T.go [true, false, false, true, true, true, false, false, false, false, true, false, false, false, false, true] trnT).every whrP = true := by kernel_rfl
theorem whr_same_tfftfffft : (T.go [true, false, false, true, false, false, false, false, true] trnT).every whrP = true := by kernel_rfl
theorem whr_same_tfftttffffttf : (T.go [true, false, false, true, true, true, false, false, false, false, true, true, false] trnT).every whrP = true := by kernel_rfl
theorem whr_same_tfftttfft : (T.go [true, false, false, true, true, true, false, false, true] trnT).every whrP = true := by kernel_rfl
theorem whr_same_tfftffffftttt : (T.go [true, false, false, true, false, false, false, false, false, true, true, true, true] trnT).every whrP = true := by kernel_rfl
theorem whr_same_tfftffffftttfft : (T.go [true, false, false, true, false, false, false, false, false, true, true, true, false, false, true] trnT).every whrP = true := by kernel_rfl
theorem whr_same_tfftffffff : (T.go [true, false, false, true, false, false, false, false, false, false] trnT).every whrP = true := by kernel_rfl
end Go.Proofs.YtkogjjeoihnjpaaGreat.Sx
end
section
set_option linter.unusedVariables false
namespace Go.Proofs.YtkogjjeoihnjpaaGreat.Sx
open Go Go.RowKit
set_option maxRecDepth 100000
theorem whr_same_tfftttffft : (T.go [true, false, false, true, true, true, false, false, false, true] trnT).every whrP = true := by kernel_rfl
theorem whr_same_tfftttfffftffft : (T.go [true, false, false, true, true, true, false, false, false, false, true, false, false, false, true] trnT).every whrP = true := by kernel_rfl
theorem whr_same_tfftttfffftttt : (T.go [true, false, false, true, true, true, false, false, false, false, true, true, true, true] trnT).every whrP = true := by kernel_rfl
theorem whr_same_tfftttt : (T.go [true, false, false, true, true, true, true] trnT).every whrP = true := by kernel_rfl
theorem whr_same_tfftffffftft : (T.go [true, false, false, true, false, false, false, false, false, true, false, true] trnT).every whrP = true := by kernel_rfl
theorem whr_same_tfftffft : (T.go [true, false, false, true, false, false, false, true] trnT).every whrP = true := by kernel_rfl
theorem whr_same_tftttt : (T.go [true, false, true, true, true, true] trnT).every whrP = true := by kernel_rfl
theorem whr_same_tftttf : (T.go [true, false, true, true, true, false] trnT).every whrP = true := by kernel_rfl
theorem whr_same_tfttft : (T.go [true, false, true, true, false, true] trnT).every whrP = true := by kernel_rfl
theorem whr_same_tfttff : (T.go [true, false, true, true, false, false] trnT).every whrP = true := by kernel_rfl
theorem whr_same_tftftt : (T.go [true, false, true, false, true, true] trnT).every whrP = true := by kernel_rfl
theorem whr_same_tftftf : (T.go [true, false, true, false, true, false] trnT).every whrP = true := by kernel_rfl
theorem whr_same_tftfft : (T.go [true, false, true, false, false, true] trnT).every whrP = true := by kernel_rfl
theorem whr_same_tftfff : (T.go [true, false, true, false, false, false] trnT).every whrP = true := by kernel_rfl
theorem whr_same_tffttf : (T.go [true, false, false, true, true, false] trnT).every whrP = true := by kernel_rfl
theorem whr_same_tfftft : (T.go [true, false, false, true, false, true] trnT).every whrP = true := by kernel_rfl
end Go.Proofs.YtkogjjeoihnjpaaGreat.Sx
end
section
set_option linter.unusedVariables false
namespace Go.Proofs.YtkogjjeoihnjpaaGreat.Sx
open Go Go.RowKit
set_option maxRecDepth 100000
theorem whr_same_tffftt : (T.go [true, false, false, false, true, true] trnT).every whrP = true := by kernel_rfl
theorem whr_same_tffftf : (T.go [true, false, false, false, true, false] trnT).every whrP = true := by kernel_rfl
theorem whr_same_tfffft : (T.go [true, false, false, false, false, true] trnT).every whrP = true := by kernel_rfl
theorem whr_same_tfffff : (T.go [true, false, false, false, false, false] trnT).every whrP = true := by kernel_rfl
theorem whr_same_f : (T.go [false] trnT).every whrP = true := by kernel_rfl
theorem whr_same_ttf : (T.go [true, true, false] trnT).every whrP = true := by kernel_rfl
theorem whr_same_tttf : (T.go [true, true, true, false] trnT).every whrP = true := by kernel_rfl
theorem whr_same_tttt : (T.go [true, true, true, true] trnT).every whrP = true := by kernel_rfl
end Go.Proofs.YtkogjjeoihnjpaaGreat.Sx
end
section
set_option linter.unusedVariables false
namespace Go.Proofs.YtkogjjeoihnjpaaGreat.Sx
open Go Go.RowKit
set_option maxRecDepth 100000
theorem whr_same : (trnT).every whrP = true := T.go_nil (T.go_twoE [] rfl rfl (T.go_twoE [true] rfl rfl (T.go_twoE [true, true] rfl rfl (T.go_twoE [true, true, true] rfl rfl whr_same_tttt whr_same_tttf) whr_same_ttf) (T.go_twoE [true, false] rfl rfl (T.go_twoE [true, false, true] rfl rfl (T.go_twoE [true, false, true, true] rfl rfl (T.go_twoE [true, false, true, true, true] rfl rfl whr_same_tftttt whr_same_tftttf) (T.go_twoE [true, false, true, true, false] rfl rfl whr_same_tfttft whr_same_tfttff)) (T.go_twoE [true, false, true, false] rfl rfl (T.go_twoE [true, false, true, false, true] rfl rfl whr_same_tftftt whr_same_tftftf) (T.go_twoE [true, false, true, false, false] rfl rfl whr_same_tftfft whr_same_tftfff))) (T.go_twoE [true, false, false] rfl rfl (T.go_twoE [true, false, false, true] rfl rfl (T.go_twoE [true, false, false, true, true] rfl rfl (T.go_twoE [true, false, false, true, true, true] rfl rfl whr_same_tfftttt (T.go_twoE [true, false, false, true, true, true, false] rfl rfl whr_same_tfftttft (T.go_twoE [true, false, false, true, true, true, false, false] rfl rfl whr_same_tfftttfft (T.go_twoE [true, false, false, true, true, true, false, false, false] rfl rfl whr_same_tfftttffft (T.go_twoE [true, false, false, true, true, true, false, false, false, false] rfl rfl (T.go_twoE [true, false, false, true, true, true, false, false, false, false, true] rfl rfl (T.go_twoE [true, false, false, true, true, true, false, false, false, false, true, true] rfl rfl (T.go_twoE [true, false, false, true, true, true, false, false, false, false, true, true, true] rfl rfl whr_same_tfftttfffftttt (T.go_twoE [true, false, false, true, true, true, false, false, false, false, true, true, true, false] rfl rfl whr_same_tfftttfffftttft whr_same_tfftttfffftttff)) whr_same_tfftttffffttf) (T.go_twoE [true, false, false, true, true, true, false, false, false, false, true, false] rfl rfl whr_same_tfftttfffftft (T.go_twoE [true, false, false, true, true, true, false, false, false, false, true, false, false] rfl rfl whr_same_tfftttfffftfft (T.go_twoE [true, false, false, true, true, true, false, false, false, false, true, false, false, false] rfl rfl whr_same_tfftttfffftffft (T.go_twoE [true, false, false, true, true, true, false, false, false, false, true, false, false, false, false] rfl rfl whr_same_tfftttfffftfffft whr_same_tfftttfffftfffff))))) whr_same_tfftttfffff))))) whr_same_tffttf) (T.go_twoE [true, false, false, true, false] rfl rfl whr_same_tfftft (T.go_twoE [true, false, false, true, false, false] rfl rfl whr_same_tfftfft (T.go_twoE [true, false, false, true, false, false, false] rfl rfl whr_same_tfftffft (T.go_twoE [true, false, false, true, false, false, false, false] rfl rfl whr_same_tfftfffft (T.go_twoE [true, false, false, true, false, false, false, false, false] rfl rfl (T.go_twoE [true, false, false, true, false, false, false, false, false, true] rfl rfl (T.go_twoE [true, false, false, true, false, false, false, false, false, true, true] rfl rfl (T.go_twoE [true, false, false, true, false, false, false, false, false, true, true, true] rfl rfl whr_same_tfftffffftttt (T.go_twoE [true, false, false, true, false, false, false, false, false, true, true, true, false] rfl rfl whr_same_tfftffffftttft (T.go_twoE [true, false, false, true, false, false, false, false, false, true, true, true, false, false] rfl rfl whr_same_tfftffffftttfft whr_same_tfftffffftttfff))) whr_same_tfftfffffttf) (T.go_twoE [true, false, false, true, false, false, false, false, false, true, false] rfl rfl whr_same_tfftffffftft (T.go_twoE [true, false, false, true, false, false, false, false, false, true, false, false] rfl rfl whr_same_tfftffffftfft whr_same_tfftffffftfff))) whr_same_tfftffffff)))))) (T.go_twoE [true, false, false, false] rfl rfl (T.go_twoE [true, false, false, false, true] rfl rfl whr_same_tffftt whr_same_tffftf) (T.go_twoE [true, false, false, false, false] rfl rfl whr_same_tfffft whr_same_tfffff))))) whr_same_f)
end Go.Proofs.YtkogjjeoihnjpaaGreat.Sx
end
section
set_option linter.unusedVariables false
set_option linter.unusedSimpArgs false
namespace Go.Proofs.YtkogjjeoihnjpaaGreat.Sx
open Go Go.RowKit
set_option maxRecDepth 100000
theorem whr_tells : RTells 52 [.agg hartC, .one cu, .one ci, .one ci, .one cb] whrIx wnR [] (.tup [.one cu, .one cu]) 2 trnF := rtells_of_run trnOrcs_ok (fun sb n ct _ => whrOrcs_ok sb n ct) (by decide) (by kernel_rfl) (and_bif trn_ran).1 whr_same
end Go.Proofs.YtkogjjeoihnjpaaGreat.Sx
end
section
set_option linter.unusedVariables false
namespace Go.Proofs.YtkogjjeoihnjpaaGreat.Sx
open Go Go.RowKit
set_option maxRecDepth 100000
noncomputable def sxfO : Orc := orcL [fieldOrc, sextOrc, putfOrc, granOrc]
theorem sxfO_ok (X : Ext) (ft : Ft) : OrcOk Tryz.prog X ft sxfO := orcL_ok fun o ho => by
  simp only [List.mem_cons, List.not_mem_nil, or_false] at ho
  rcases ho with rfl | rfl | rfl | rfl
  · exact fieldOrc_ok _ _
  · exact sextOrc_ok _ _
  · exact putfOrc_ok _ _
  · exact granOrc_ok _ _
/-! ### amo.New -/
def newRs : List (Int × Int) := [II, R 8, U, U]
theorem new_ran : ranB (xfn Tryz.prog tab.get sxfO 5000 100 138 (argsG [.one ci, .one ci, .one cu, .one cu] newRs) (hpF [])) (.tup [.one cu, .one ci]) [U, R 6] newRs [] = true := by kernel_rfl
noncomputable def newF : List Int → List Int := Fof (xfn Tryz.prog tab.get sxfO 5000 100 138 (argsG [.one ci, .one ci, .one cu, .one cu] newRs) (hpF [])) (.tup [.one cu, .one ci]) (fun _ _ => [])
theorem new_tells : Tells Tryz.prog 138 [.one ci, .one ci, .one cu, .one cu] newRs [] (.tup [.one cu, .one ci]) [U, R 6] [] newF := tells_of_run tab_ok mixed (sxfO_ok _ _) (by decide) (by kernel_rfl) (by kernel_rfl) new_ran
noncomputable def newO : Orc := tellOrc 138 36 [.one ci, .one ci, .one cu, .one cu] newRs [] (.tup [.one cu, .one ci]) [U, R 6] []
theorem newO_ok (X : Ext) (ft : Ft) (h : ft 36 = newF) : OrcOk Tryz.prog X ft newO := tellOrc_ok (by kernel_rfl) (by kernel_rfl) (by rw [h]; exact new_tells)
/-! ### amo.Holds -/
def hldRs : List (Int × Int) := hartR ++ [U]
theorem hld_ran : ranB (xfn Tryz.prog tab.get sxfO 5000 100 150 (argsG [.agg hartC, .one cu] hldRs) (hpF [])) (.one (.one cb)) [BB] hldRs [] = true := by kernel_rfl
noncomputable def hldF : List Int → List Int := Fof (xfn Tryz.prog tab.get sxfO 5000 100 150 (argsG [.agg hartC, .one cu] hldRs) (hpF [])) (.one (.one cb)) (fun _ _ => [])
theorem hld_tells : Tells Tryz.prog 150 [.agg hartC, .one cu] hldRs [] (.one (.one cb)) [BB] [] hldF := tells_of_run tab_ok mixed (sxfO_ok _ _) (by decide) (by kernel_rfl) (by kernel_rfl) hld_ran
noncomputable def hldO : Orc := tellOrc 150 37 [.agg hartC, .one cu] hldRs [] (.one (.one cb)) [BB] []
theorem hldO_ok (X : Ext) (ft : Ft) (h : ft 37 = hldF) : OrcOk Tryz.prog X ft hldO := tellOrc_ok (by kernel_rfl) (by kernel_rfl) (by rw [h]; exact hld_tells)
end Go.Proofs.YtkogjjeoihnjpaaGreat.Sx
end
section
set_option linter.unusedVariables false
set_option linter.unusedSimpArgs false
namespace Go.Proofs.YtkogjjeoihnjpaaGreat.Sx
open Go Go.RowKit
set_option maxRecDepth 100000
noncomputable section
def hartV : List (Int × Int) := U :: II :: (List.replicate 62 U ++ [BB, U])
/-- x / n = 0: x % n is x -/
def quo0 (x : E) (n : Int) : Ks → Bool
  | [] => false
  | (.cmp .eql (.pl .quo y (.lit m)) (.lit (.ofNat 0)), true) :: r => bif (bif decide (m = n) then eEq y x else false) then true else quo0 x n r
  | _ :: r => quo0 x n r
theorem quo0_ok {V : Env} {x : E} {n : Int} : ∀ {k : Ks}, KsOk V k → quo0 x n k = true → x.den V / n = 0
  | [], _, h => nomatch h
  | (e, b) :: r, hk, h => by
    unfold quo0 at h
    split at h
    · cases h
    · rename_i y m r' heq
      cases heq
      cases hb : (bif decide (m = n) then eEq y x else false) with
      | true =>
        obtain ⟨h1, h2⟩ := and_bif hb
        have h1 := of_decide_eq_true h1
        subst h1
        have h3 := hk _ List.mem_cons_self
        rw [tr_cmp, den_lit, den_pl, den_lit] at h3
        simp only [cmpD, plD, beq_iff_eq] at h3
        rw [← eEq_den h2]
        exact h3
      | false => rw [hb, cond_false] at h; exact quo0_ok hk.tail h
    · rename_i heq
      cases heq
      exact quo0_ok hk.tail h
def remK (k0 : Ks) : Ks → Ks
  | [] => []
  | (.cmp op (.pl .rem x (.lit (.ofNat n))) (.lit m), b) :: r => bif (bif Nat.ble 1 n then quo0 x (.ofNat n) k0 else false) then (.cmp op x (.lit m), b) :: (.cmp op (.pl .rem x (.lit (.ofNat n))) (.lit m), b) :: remK k0 r else (.cmp op (.pl .rem x (.lit (.ofNat n))) (.lit m), b) :: remK k0 r
  | q :: r => q :: remK k0 r
theorem remK_ok {V : Env} {k0 : Ks} (h0 : KsOk V k0) : ∀ {k : Ks}, KsOk V k → KsOk V (remK k0 k)
  | [], h => h
  | q :: r, h => by
    have ih := remK_ok h0 (k := r) h.tail
    have hq := h _ List.mem_cons_self
    unfold remK
    split
    · rename_i heq; cases heq
    · rename_i op x n m b r' heq
      cases heq
      cases hb : (bif Nat.ble 1 n then quo0 x (.ofNat n) k0 else false) with
      | true =>
        rw [cond_true]
        obtain ⟨h1, h2⟩ := and_bif hb
        have h1 := Nat.le_of_ble_eq_true h1
        have h3 := quo0_ok h0 h2
        have hn : (0 : Int) < Int.ofNat n := by simp only [Int.ofNat_eq_natCast]; omega
        have h4 : x.den V % Int.ofNat n = x.den V := by
          have := Int.emod_add_mul_ediv (x.den V) (Int.ofNat n)
          rw [h3, Int.mul_zero, Int.add_zero] at this
          exact this
        refine KsOk.cons ?_ (KsOk.cons hq ih)
        rw [tr_cmp, den_lit] at hq ⊢
        rw [den_pl, den_lit] at hq
        simp only [plD] at hq
        rw [h4] at hq
        exact hq
      | false => rw [cond_false]; exact KsOk.cons hq ih
    · rename_i heq
      cases heq
      exact KsOk.cons hq ih
/-- what is known, turned -/
def useK (k : Ks) : Ks := remK (swK k) (swK k)
def mayQ (a : SV × Hp) : Bool :=
  match a.1 with
  | .pv (.one (.bool e)) => (match knownF a.2.gh.k e with
    | some false => true
    | _ => bif deadZ (swK a.2.gh.k) (swK a.2.gh.k) then true else bif inRs (useK ((e, true) :: a.2.gh.k)) hartR (vars 0 hartV) then holdsB (useK ((e, true) :: a.2.gh.k)) (vars 0 hartV) mayK else false)
  | _ => false
def mayQT (g : FuncId) : XR := xfn Tryz.prog tab.get noOrc 5000 100 g (argsG [.agg hartC] hartV) (hpF [])
def isMayE (h : List Int) : Prop := InB hartR h ∧ KsOk (env0 h) mayK
open Classical in
def mayEF (h : List Int) : List Int := if isMayE h then [1] else [0]
theorem may_scTV : mayK.all (fun q => scTy hartR true q.1) = true := by kernel_rfl
/-- a function that says whether a hart may be -/
def MayG (g : FuncId) : Prop := ∀ h, InB hartV h → ∀ w, Calls Tryz.prog g #[.agg (cksV hartC h).toArray] w (Gives (.bool (decide (mayEF h = [1]))) w)
theorem mayG_of {g : FuncId} (hy : Says Tryz.prog g [.agg hartC] hartR mayK true) (hr : (mayQT g).every mayQ = true) : MayG g := by
  intro h hh w
  by_cases hm : isMayE h
  · have e : mayEF h = [1] := by unfold mayEF; rw [if_pos hm]
    rw [e]
    exact hy h hm.1 hm.2 w
  · have e : mayEF h = [0] := by unfold mayEF; rw [if_neg hm]
    rw [e]
    refine (xfn_ok (X := noExt) (ft := fun _ _ => []) tab_ok (noOrc_ok _ _ _) mixed 5000 100 g (argsG [.agg hartC] hartV) (hpF []) (ctx1 (envA (fun _ _ => []) h)) w (shVs [.agg hartC] h) ⟨rfl, rfl, fun _ _ h => nomatch h⟩ (hrelF hh (by decide) rfl (fun q hq => by cases hq) w) (argsG_rel hh (by decide)).1 (fun _ a => mayQ a = true) (T.every_holds hr)).mono ?_
    rintro e' w' ⟨C', v, sv, hp', rfl, hrel', hH, hK, hb⟩
    refine ⟨?_, hK.belowN⟩
    congr 1
    unfold mayQ at hb
    split at hb
    · rename_i e hsv
      simp only at hsv
      subst hsv
      obtain ⟨hes, rfl⟩ := hrel'
      have hno : e.tr C'.V = false := by
        split at hb
        · rename_i hk
          exact knownF_ok hH.ks hes hk
        · cases htr : e.tr C'.V with
          | false => rfl
          | true =>
            exfalso
            have hks : KsOk C'.V (useK ((e, true) :: hp'.gh.k)) := remK_ok (swK_ok (hH.ks.cons htr)) (swK_ok (hH.ks.cons htr))
            cases hdz : deadZ (swK hp'.gh.k) (swK hp'.gh.k) with
            | true => exact deadZ_ok (d := C'.vd) (swK_ok hH.ks) (swK_sc hH.ext.facts) hdz
            | false =>
            rw [hdz, cond_false] at hb
            obtain ⟨h1, h2⟩ := and_bif hb
            obtain ⟨_, hsc0⟩ := argsG_rel (ss := [.agg hartC]) (ft := fun _ _ => []) hh (by decide)
            have hsc : ∀ e ∈ vars 0 hartV, e.sc C'.V C'.vd := fun e he => (E.sc_le hK.le e (hsc0 e he)).1
            have hden : (vars 0 hartV).map (E.den C'.V) = h := (den_map (C := ctx1 (envA (fun _ _ => []) h)) hK.le hsc0).trans (vars_den hh.1 fun j m hj => by
              show h.getD (0 + j) 0 = m
              rw [Nat.zero_add, List.getD, hj]; rfl)
            have r1 := inRs_ok hks h1 hsc
            have r2 := holdsB_ok hks hsc (rs := hartR) (by have := congrArg List.length hden; simp only [List.length_map] at this; rw [this, hh.1]; rfl) may_scTV h2
            rw [hden] at r1 r2
            exact hm ⟨r1, r2⟩
      rw [hno]
      simp
    · cases hb
end
end Go.Proofs.YtkogjjeoihnjpaaGreat.Sx
end
section
set_option linter.unusedVariables false
namespace Go.Proofs.YtkogjjeoihnjpaaGreat.Sx
open Go Go.RowKit
set_option maxRecDepth 100000
theorem emay_ran_tttff : (T.go [true, true, true, false, false] (mayQT 77)).every mayQ = true := by kernel_rfl
end Go.Proofs.YtkogjjeoihnjpaaGreat.Sx
end
