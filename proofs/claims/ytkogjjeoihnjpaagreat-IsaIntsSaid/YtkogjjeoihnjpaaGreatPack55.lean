/- IsaInts: what is asked, the contracts. No condition. IsaInts: the run. No condition. IsaInts: the law's function. No condition. -/
import Derived.Test.YtkogjjeoihnjpaaGreatPack54
import Derived.Test.YtkogjjeoihnjpaaGreatPack50
import Derived.Test.YtkogjjeoihnjpaaGreatPack53
import Derived.Test.YtkogjjeoihnjpaaGreatPack48
import Derived.KernelRfl
section
set_option linter.unusedVariables false
set_option linter.unusedSimpArgs false
namespace Go.Proofs.YtkogjjeoihnjpaaGreat.Sx
open Go Go.RowKit
set_option maxRecDepth 100000
noncomputable section
/-- is one taken? two ways -/
def forkS (r : SV × Hp) : XR :=
  match r.1 with
  | .tup [_, .one (.bool e)] => xif e r.2 (fun hp => .ret (r.1, hp)) (fun hp => .ret (r.1, hp))
  | _ => .ret r
theorem forkS_ok {C : Ctx} {w : World} {Φ : Env → SV × Hp → Prop} {v : Value} {sv : SV} {hp : Hp} (hr : sv.rel C v) (h : HRel C hp w) (hx : (forkS (sv, hp)).holds Φ C.V) : ∃ hp', HRel C hp' w ∧ Φ C.V (sv, hp') := by
  unfold forkS at hx
  simp only at hx
  split at hx
  · rename_i p e
    obtain ⟨vs, hrel, _⟩ := hr
    obtain ⟨u, _, hu⟩ := hrel.get 1 _ rfl
    obtain ⟨s1, _⟩ : e.sc C.V C.vd ∧ _ := hu
    obtain ⟨hp1, h1, _, _, _, _, _, _, t1, e1⟩ := xif_holds (c := e) h s1 hx
    cases hb : e.tr C.V with
    | false => exact ⟨hp1, h1, e1 hb⟩
    | true => exact ⟨hp1, h1, t1 hb⟩
  · exact ⟨hp, h, hx⟩
def selRF : Orc := fun f args hp =>
  match selRO f args hp with
  | some t => some (t.bind forkS)
  | none => none
theorem selRF_ok (X : Ext) (ft : Ft) (h : ft 11 = selF) : OrcOk Tryz.prog X ft selRF := by
  intro f args hp t h0 C w vs hC hH hv Φ hx
  unfold selRF at h0
  split at h0
  · rename_i t0 ht
    cases h0
    rw [T.holds_bind] at hx
    refine (selRO_ok X ft h f args hp t0 ht C w vs hC hH hv _ hx).mono ?_
    rintro e w' ⟨C', v, sv, hp', rfl, hrel, hH', hK, hb⟩
    obtain ⟨hp2, k1, k2⟩ := forkS_ok hrel hH' hb
    exact ⟨C', v, sv, hp2, rfl, hrel, k1, hK, k2⟩
  · cases h0
def wordS32 : SV := .pv (.one (.int .u32 (.var (.ofNat 0) (.ofNat 4294967295) 66)))
def envS : SV := .pv (.agg (cksSC envC (vars 67 envR)))
def intOrcs : Orc := lawOrcs [mayRO, selO, selRF, entO, entRO, forgO]
def ftI : Ft := fun i => if i = 11 then selF else if i = 15 then entF else if i = 40 then loiG else if i = 41 then mayF else fun _ => []
theorem intOrcs_ok : OrcOk Tryz.prog memsX ftI intOrcs := lawOrcs_ok fun o ho => by
  simp only [List.mem_cons, List.not_mem_nil, or_false] at ho
  rcases ho with rfl | rfl | rfl | rfl | rfl | rfl
  · exact mayRO_ok _ _ (by simp [ftI])
  · exact selO_ok _ _ (by simp [ftI])
  · exact selRF_ok _ _ (by simp [ftI])
  · exact entO_ok _ _ (by simp [ftI])
  · exact entRO_ok _ _ (by simp [ftI])
  · exact forgO_ok (by simp [ftI]) (by simp [ftI])
def intT : XR := xfn Tryz.prog tab.get intOrcs 5000 100 6 [hartS, wordS32, envS] (hpN [])
end
end Go.Proofs.YtkogjjeoihnjpaaGreat.Sx
end
section
namespace Go.Proofs.YtkogjjeoihnjpaaGreat.Sx
open Go Go.RowKit
set_option maxRecDepth 100000
theorem ints_run : intT.every (isB' true) = true := by kernel_rfl
end Go.Proofs.YtkogjjeoihnjpaaGreat.Sx
end
section
set_option linter.unusedVariables false
set_option linter.unusedSimpArgs false
namespace Go.Proofs.YtkogjjeoihnjpaaGreat.Sx
open Go Go.RowKit
set_option maxRecDepth 100000
theorem isa_ints {h : List Int} (hh : InB hartW h) {wd : Int} (hw : 0 ≤ wd ∧ wd ≤ 4294967295) {ev : List Int} (he : InB envR ev) (w : World) :
    Calls Tryz.prog 6 #[.agg (cksV hartC h).toArray, .int .u32 wd, .agg (cksV envC ev).toArray] w (Gives (.bool true) w) := by
  have hl : h.length = 66 := hh.1
  have hi : InB (hartW ++ ([(.ofNat 0, .ofNat 4294967295)] ++ envR)) (h ++ ([wd] ++ ev)) := hh.app (InB.app (.cons hw .nil) he)
  have g66 : (h ++ ([wd] ++ ev)).getD 66 0 = wd := getD_app 0 hl
  have rel : All2 (SV.rel (ctxN ftI (h ++ ([wd] ++ ev)))) [hartS, wordS32, envS] [.agg (cksV hartC h).toArray, .int .u32 wd, .agg (cksV envC ev).toArray] := by
    refine .cons (hartS_rel hh) (.cons ?_ (.cons ?_ .nil))
    · exact ⟨⟨show 66 < 1000 by omega, by show Int.ofNat 0 ≤ (h ++ ([wd] ++ ev)).getD 66 0; rw [g66]; exact hw.1, by show (h ++ ([wd] ++ ev)).getD 66 0 ≤ _; rw [g66]; exact hw.2⟩, by show _ = Value.int .u32 ((h ++ ([wd] ++ ev)).getD 66 0); rw [g66]⟩
    · have hev : ∀ j m, ev[j]? = some m → (h ++ ([wd] ++ ev)).getD (67 + j) 0 = m := fun j m hj => by
        rw [← List.append_assoc, List.getD, List.getElem?_append_right (by simp; omega)]
        simp only [List.length_append, hl, List.length_cons, List.length_nil]
        rw [show 67 + j - (66 + (0 + 1)) = j by omega, hj]; rfl
      have hs : ∀ e ∈ vars 67 envR, e.sc (ctxN ftI (h ++ ([wd] ++ ev))).V (ctxN ftI (h ++ ([wd] ++ ev))).vd := fun e he' => by
        obtain ⟨j, r, h1, rfl⟩ := vars_get he'
        have hj : j < envR.length := (List.getElem?_eq_some_iff.1 h1).1
        have hj10 : j < 10 := hj
        obtain ⟨m, hm⟩ : ∃ m, ev[j]? = some m := ⟨_, List.getElem?_eq_getElem (by rw [he.1]; exact hj)⟩
        have hb := he.2 j r m h1 hm
        have hv : (ctxN ftI (h ++ ([wd] ++ ev))).V.i (67 + j) = m := hev j m hm
        exact ⟨show 67 + j < 1000 by omega, by rw [hv]; exact hb.1, by rw [hv]; exact hb.2⟩
      have hd : (vars 67 envR).map (E.den (ctxN ftI (h ++ ([wd] ++ ev))).V) = ev := vars_den he.1 fun j m hj => hev j m hj
      have := cksSC_rel (C := ctxN ftI (h ++ ([wd] ++ ev))) envC hs
      rw [hd] at this
      exact ⟨_, this, rfl⟩
  exact law_of_run2 intOrcs_ok hi (by rw [List.length_append]; decide) (fk := []) rfl (fun q hq => by cases hq) rel ints_run w
end Go.Proofs.YtkogjjeoihnjpaaGreat.Sx
end
