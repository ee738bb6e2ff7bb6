/- IsaPages: the law's function. No condition. -/
import Derived.Test.YtkogjjeoihnjpaaGreatPack23
import Derived.Test.YtkogjjeoihnjpaaGreatPack24
import Derived.Test.YtkogjjeoihnjpaaGreatPack25
import Derived.Test.YtkogjjeoihnjpaaGreatPack26
section
set_option linter.unusedVariables false
set_option linter.unusedSimpArgs false
namespace Go.Proofs.YtkogjjeoihnjpaaGreat.Sx
open Go Go.RowKit
set_option maxRecDepth 100000
theorem isa_pages {h : List Int} (hh : InB hartW h) {off : Int} {k : Int} {store : Bool} {v : Int} (hoff : -9223372036854775808 ≤ off ∧ off ≤ 9223372036854775807) (hk : -9223372036854775808 ≤ k ∧ k ≤ 9223372036854775807) (hv : 0 ≤ v ∧ v ≤ 18446744073709551615) (w : World) :
    Calls Tryz.prog 12 #[.agg (cksV hartC h).toArray, .int .i64 off, .int .i64 k, .bool store, .int .u64 v] w (Gives (.bool true) w) := by
  have hl : h.length = 66 := hh.1
  have hw : 0 ≤ IntKind.u64.wrap k ∧ IntKind.u64.wrap k ≤ 18446744073709551615 := by rw [IntKind.wrap_u64]; omega
  have hq : 0 ≤ IntKind.u64.wrap k / 4 ∧ IntKind.u64.wrap k / 4 ≤ 18446744073709551615 := by omega
  have hi : InB (hartW ++ [I64R, U, U, U]) (h ++ [off, IntKind.u64.wrap k / 4, 0, v]) := hh.app (.cons hoff (.cons hq (.cons ⟨by decide, by decide⟩ (.cons hv (.nil)))))
  have hj : (IntKind.u64.wrap k % 4).toNat < 4 := by omega
  have hr := restS_rel (ft := fun _ _ => []) (args := h ++ [off, IntKind.u64.wrap k / 4, 0, v]) (n := 4) (i := 67) (k := k) (by decide) (by decide) (getD_app 1 hl) hk.1 hk.2
  generalize (IntKind.u64.wrap k % 4).toNat = j at *
  have rel : ∀ b, store = b → All2 (SV.rel (ctxN (fun _ _ => []) (h ++ [off, IntKind.u64.wrap k / 4, 0, v]))) [hartS, iS 66, restS 4 j 67, bS b, uS 69] [.agg (cksV hartC h).toArray, .int .i64 off, .int .i64 k, .bool store, .int .u64 v] := fun b hb => by
    subst hb
    exact .cons (hartS_rel hh) (.cons (iS_rel (by decide) (getD_app 0 hl) hoff.1 hoff.2) (.cons (hr) (.cons (bS_rel _) (.cons (uS_rel (by decide) (getD_app 3 hl) hv.1 hv.2) (.nil)))))
  have fin : ∀ {orc : Orc} {b : Bool}, OrcOk Tryz.prog memsX (fun _ _ => []) orc → store = b → (xfn Tryz.prog tab.get orc 5000 100 12 [hartS, iS 66, restS 4 j 67, bS b, uS 69] (hpN [])).every (fun a => a.1.isB true) = true → Calls Tryz.prog 12 #[.agg (cksV hartC h).toArray, .int .i64 off, .int .i64 k, .bool store, .int .u64 v] w (Gives (.bool true) w) := fun ho hb hx =>
    law_of_run ho hi (by rw [List.length_append]; decide) (fk := []) rfl (fun q hq => by cases hq) (rel _ hb) hx w
  rcases (show j = 0 ∨ j = 1 ∨ j = 2 ∨ j = 3 by omega) with rfl | rfl | rfl | rfl
  · rcases Bool.eq_false_or_eq_true store with hs | hs
    · exact fin (lawOrcs_ok (l := []) (fun o ho => by cases ho)) hs pages_run0s
    · exact fin (lawOrcs_ok (l := []) (fun o ho => by cases ho)) hs pages_run0l
  · rcases Bool.eq_false_or_eq_true store with hs | hs
    · exact fin (lawOrcs_ok (l := []) (fun o ho => by cases ho)) hs pages_run1s
    · exact fin (lawOrcs_ok (l := []) (fun o ho => by cases ho)) hs pages_run1l
  · rcases Bool.eq_false_or_eq_true store with hs | hs
    · exact fin (lawOrcs_ok (l := []) (fun o ho => by cases ho)) hs pages_run2s
    · exact fin (lawOrcs_ok (l := []) (fun o ho => by cases ho)) hs pages_run2l
  · rcases Bool.eq_false_or_eq_true store with hs | hs
    · exact fin (lawOrcs_ok (l := []) (fun o ho => by cases ho)) hs pages_run3s
    · exact fin (lawOrcs_ok (l := []) (fun o ho => by cases ho)) hs pages_run3l
end Go.Proofs.YtkogjjeoihnjpaaGreat.Sx
end
