/- csr.Write: registers that may be, again; by the number of the register, and what is delegated. No condition. -/
import Derived.Test.YtkogjjeoihnjpaaGreatPack4
import Derived.Test.YtkogjjeoihnjpaaGreatPack8
import Derived.Test.YtkogjjeoihnjpaaGreatPack5
import Derived.Test.YtkogjjeoihnjpaaGreatPack19
import Derived.KernelRfl
section
set_option linter.unusedVariables false
namespace Go.Proofs.YtkogjjeoihnjpaaGreat.Sx
open Go Go.RowKit
set_option maxRecDepth 100000
def wriRs : List (Int × Int) := csrR ++ [R 4095, R 3, U] ++ envR
/-- behind the registers (30) and the error: the counter of instructions stays, but where it is written itself -/
def wriK : Ks := csrK ++ [(.ite (.cmp .neq (.var (.ofNat 0) (.ofNat 20) 30) (ln 0)) (.tt true) (.ite (.cmp .eql (.var (.ofNat 0) (.ofNat 4095) 61) (ln 2818)) (.tt true) (.cmp .eql (vu 19) (vu 50))), true)]
def delegL : List Int := [.ofNat 0, .ofNat 2, .ofNat 32, .ofNat 34, .ofNat 512, .ofNat 514, .ofNat 544, .ofNat 546]
/-- what is delegated is one of eight -/
theorem deleg_in (args : List Int) (hi : InB wriRs args) (h : KsOk (env0 args) csrK) : args.getD 2 0 ∈ delegL := by
  have hb := inB_get hi (i := 2) (r := U) rfl
  have h0 : (0 : Int) ≤ args.getD 2 0 := hb.1
  have hm : csrK[11]? = some (.cmp .eql (.pl .add (.pl .add (.pl .add (.pl .rem (vu 2) (ln 2)) (.pl .mul (.pl .rem (.pl .quo (vu 2) (ln 4)) (ln 8)) (ln 2))) (.pl .mul (.pl .rem (.pl .quo (vu 2) (ln 64)) (ln 8)) (ln 16))) (.pl .mul (.pl .quo (vu 2) (ln 1024)) (ln 128))) (ln 0), true) := rfl
  have h1 := h _ (List.mem_of_getElem? hm)
  simp only [tr_cmp, den_pl, vu, ln, den_lit, den_var, plD, cmpD, beq_iff_eq] at h1
  have e : (env0 args).i 2 = args.getD 2 0 := rfl
  rw [e] at h1
  generalize args.getD 2 0 = x at *
  simp only [Int.ofNat_eq_natCast] at h1
  show x ∈ ([0, 2, 32, 34, 512, 514, 544, 546] : List Int)
  simp only [List.mem_cons, List.not_mem_nil, or_false]
  omega
noncomputable def wriT (fk : Ks) : XR := xfn Tryz.prog tab.get mrdO 5000 100 241 (argsG [.agg csrC, .one ci, .one ci, .one cu, .agg envC] wriRs) (hpF fk)
abbrev wriS (fk : Ks) (F : List Int → List Int) : Prop := Tells Tryz.prog 241 [.agg csrC, .one ci, .one ci, .one cu, .agg envC] wriRs fk (.tup [.agg csrC, .one ci]) (csrR ++ [R 20]) wriK F
noncomputable def ft1 : Ft := fun i => if i = 17 then mrdF else fun _ => []
theorem wri_tells1 (fk : Ks) (hf : fk.all (fun q => scB wriRs q.1) = true) (h : ranB (wriT fk) (.tup [.agg csrC, .one ci]) (csrR ++ [R 20]) wriRs wriK = true) : wriS fk (Fof (wriT fk) (.tup [.agg csrC, .one ci]) ft1) :=
  tells_of_run tab_ok mixed (mrdO_ok noExt ft1 rfl) (by decide) hf (by kernel_rfl) h
/-- one register -/
def isN (n : Nat) (b : Bool) : E × Bool := (.cmp .eql (.var (.ofNat 0) (.ofNat 4095) 30) (ln n), b)
def delK (c : Int) : E × Bool := (.cmp .eql (.var (.ofNat 0) (.ofNat 18446744073709551615) 2) (.lit c), true)
theorem wri_ran260 : ∀ c ∈ delegL, ranB (wriT (csrK ++ [isN 260 true] ++ [delK c])) (.tup [.agg csrC, .one ci]) (csrR ++ [R 20]) wriRs wriK = true := by
  intro c hc
  simp only [delegL, List.mem_cons, List.not_mem_nil, or_false] at hc
  rcases hc with rfl | rfl | rfl | rfl | rfl | rfl | rfl | rfl <;> kernel_rfl
theorem wri260 : wriS (csrK ++ [isN 260 true]) (fun args => Fof (wriT (csrK ++ [isN 260 true] ++ [delK (args.getD 2 0)])) (.tup [.agg csrC, .one ci]) ft1 args) :=
  Tells.oneOf (lo := .ofNat 0) (hi := .ofNat 18446744073709551615) (F := fun c => Fof (wriT (csrK ++ [isN 260 true] ++ [delK c])) (.tup [.agg csrC, .one ci]) ft1) 2 delegL (fun args hi hk => deleg_in args hi fun q hq => hk q (by simp only [List.mem_append, hq, true_or])) fun c hc => wri_tells1 _ (by
    simp only [delegL, List.mem_cons, List.not_mem_nil, or_false] at hc
    rcases hc with rfl | rfl | rfl | rfl | rfl | rfl | rfl | rfl <;> kernel_rfl) (wri_ran260 c hc)
theorem wri_ran324 : ∀ c ∈ delegL, ranB (wriT (csrK ++ [isN 260 false] ++ [isN 324 true] ++ [delK c])) (.tup [.agg csrC, .one ci]) (csrR ++ [R 20]) wriRs wriK = true := by
  intro c hc
  simp only [delegL, List.mem_cons, List.not_mem_nil, or_false] at hc
  rcases hc with rfl | rfl | rfl | rfl | rfl | rfl | rfl | rfl <;> kernel_rfl
theorem wri324 : wriS (csrK ++ [isN 260 false] ++ [isN 324 true]) (fun args => Fof (wriT (csrK ++ [isN 260 false] ++ [isN 324 true] ++ [delK (args.getD 2 0)])) (.tup [.agg csrC, .one ci]) ft1 args) :=
  Tells.oneOf (lo := .ofNat 0) (hi := .ofNat 18446744073709551615) (F := fun c => Fof (wriT (csrK ++ [isN 260 false] ++ [isN 324 true] ++ [delK c])) (.tup [.agg csrC, .one ci]) ft1) 2 delegL (fun args hi hk => deleg_in args hi fun q hq => hk q (by simp only [List.mem_append, hq, true_or])) fun c hc => wri_tells1 _ (by
    simp only [delegL, List.mem_cons, List.not_mem_nil, or_false] at hc
    rcases hc with rfl | rfl | rfl | rfl | rfl | rfl | rfl | rfl <;> kernel_rfl) (wri_ran324 c hc)
theorem wri803 : wriS (csrK ++ [isN 260 false] ++ [isN 324 false] ++ [isN 803 true]) (Fof (wriT (csrK ++ [isN 260 false] ++ [isN 324 false] ++ [isN 803 true])) (.tup [.agg csrC, .one ci]) ft1) := wri_tells1 _ (by kernel_rfl) (by kernel_rfl)
theorem wri804 : wriS (csrK ++ [isN 260 false] ++ [isN 324 false] ++ [isN 803 false] ++ [isN 804 true]) (Fof (wriT (csrK ++ [isN 260 false] ++ [isN 324 false] ++ [isN 803 false] ++ [isN 804 true])) (.tup [.agg csrC, .one ci]) ft1) := wri_tells1 _ (by kernel_rfl) (by kernel_rfl)
theorem wri805 : wriS (csrK ++ [isN 260 false] ++ [isN 324 false] ++ [isN 803 false] ++ [isN 804 false] ++ [isN 805 true]) (Fof (wriT (csrK ++ [isN 260 false] ++ [isN 324 false] ++ [isN 803 false] ++ [isN 804 false] ++ [isN 805 true])) (.tup [.agg csrC, .one ci]) ft1) := wri_tells1 _ (by kernel_rfl) (by kernel_rfl)
theorem wri806 : wriS (csrK ++ [isN 260 false] ++ [isN 324 false] ++ [isN 803 false] ++ [isN 804 false] ++ [isN 805 false] ++ [isN 806 true]) (Fof (wriT (csrK ++ [isN 260 false] ++ [isN 324 false] ++ [isN 803 false] ++ [isN 804 false] ++ [isN 805 false] ++ [isN 806 true])) (.tup [.agg csrC, .one ci]) ft1) := wri_tells1 _ (by kernel_rfl) (by kernel_rfl)
theorem wriRest : wriS (csrK ++ [isN 260 false] ++ [isN 324 false] ++ [isN 803 false] ++ [isN 804 false] ++ [isN 805 false] ++ [isN 806 false]) (Fof (wriT (csrK ++ [isN 260 false] ++ [isN 324 false] ++ [isN 803 false] ++ [isN 804 false] ++ [isN 805 false] ++ [isN 806 false])) (.tup [.agg csrC, .one ci]) ft1) := wri_tells1 _ (by kernel_rfl) (by kernel_rfl)
theorem wri_ex : ∃ F, wriS csrK F := ⟨_, Tells.split _ wri260 (Tells.split _ wri324 (Tells.split _ wri803 (Tells.split _ wri804 (Tells.split _ wri805 (Tells.split _ wri806 wriRest)))))⟩
noncomputable def wriF : List Int → List Int := Classical.choose wri_ex
theorem wri_tells : wriS csrK wriF := Classical.choose_spec wri_ex
noncomputable def wriO : Orc := tellOrc 241 19 [.agg csrC, .one ci, .one ci, .one cu, .agg envC] wriRs csrK (.tup [.agg csrC, .one ci]) (csrR ++ [R 20]) wriK
theorem wriO_ok (X : Ext) (ft : Ft) (h : ft 19 = wriF) : OrcOk Tryz.prog X ft wriO := tellOrc_ok (by kernel_rfl) (by kernel_rfl) (by rw [h]; exact wri_tells)
end Go.Proofs.YtkogjjeoihnjpaaGreat.Sx
end
