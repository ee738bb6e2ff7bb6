/- IsaTraps: the law's function. No condition. -/
import Derived.Test.YtkogjjeoihnjpaaGreatPack45
import Derived.Test.YtkogjjeoihnjpaaGreatPack46
import Derived.Test.YtkogjjeoihnjpaaGreatPack47
import Derived.Test.YtkogjjeoihnjpaaGreatPack48
import Derived.Test.YtkogjjeoihnjpaaGreatPack49
import Derived.Test.YtkogjjeoihnjpaaGreatPack50
import Derived.Test.YtkogjjeoihnjpaaGreatPack51
import Derived.Test.YtkogjjeoihnjpaaGreatPack52
section
set_option linter.unusedVariables false
set_option linter.unusedSimpArgs false
namespace Go.Proofs.YtkogjjeoihnjpaaGreat.Sx
open Go Go.RowKit
set_option maxRecDepth 100000
theorem isa_traps {h : List Int} (hh : InB hartW h) {pc : Int} {which : Int} {user : Bool} {n : Int} (hpc : 0 ≤ pc ∧ pc ≤ 18446744073709551615) (hwhich : -9223372036854775808 ≤ which ∧ which ≤ 9223372036854775807) (hn : -9223372036854775808 ≤ n ∧ n ≤ 9223372036854775807) (w : World) :
    Calls Tryz.prog 13 #[.agg (cksV hartC h).toArray, .int .u64 pc, .int .i64 which, .bool user, .int .i64 n] w (Gives (.bool true) w) := by
  have hl : h.length = 66 := hh.1
  have hw : 0 ≤ IntKind.u64.wrap which ∧ IntKind.u64.wrap which ≤ 18446744073709551615 := by rw [IntKind.wrap_u64]; omega
  have hq : 0 ≤ IntKind.u64.wrap which / 8 ∧ IntKind.u64.wrap which / 8 ≤ 18446744073709551615 := by omega
  have hi : InB (hartW ++ [U, U, U, I64R]) (h ++ [pc, IntKind.u64.wrap which / 8, 0, n]) := hh.app (.cons hpc (.cons hq (.cons ⟨by decide, by decide⟩ (.cons hn (.nil)))))
  have hj : (IntKind.u64.wrap which % 8).toNat < 8 := by omega
  have hr := restS_rel (ft := ft7) (args := h ++ [pc, IntKind.u64.wrap which / 8, 0, n]) (n := 8) (i := 67) (k := which) (by decide) (by decide) (getD_app 1 hl) hwhich.1 hwhich.2
  generalize (IntKind.u64.wrap which % 8).toNat = j at *
  have rel : ∀ b, user = b → All2 (SV.rel (ctxN ft7 (h ++ [pc, IntKind.u64.wrap which / 8, 0, n]))) [hartS, uS 66, restS 8 j 67, bS b, iS 69] [.agg (cksV hartC h).toArray, .int .u64 pc, .int .i64 which, .bool user, .int .i64 n] := fun b hb => by
    subst hb
    exact .cons (hartS_rel hh) (.cons (uS_rel (by decide) (getD_app 0 hl) hpc.1 hpc.2) (.cons (hr) (.cons (bS_rel _) (.cons (iS_rel (by decide) (getD_app 3 hl) hn.1 hn.2) (.nil)))))
  have fin : ∀ {orc : Orc} {b : Bool}, OrcOk Tryz.prog memsX ft7 orc → user = b → (xfn Tryz.prog tab.get orc 5000 100 13 [hartS, uS 66, restS 8 j 67, bS b, iS 69] (hpN [])).every (isB' true) = true → Calls Tryz.prog 13 #[.agg (cksV hartC h).toArray, .int .u64 pc, .int .i64 which, .bool user, .int .i64 n] w (Gives (.bool true) w) := fun ho hb hx =>
    law_of_run2 ho hi (by rw [List.length_append]; decide) (fk := []) rfl (fun q hq => by cases hq) (rel _ hb) hx w
  rcases (show j = 0 ∨ j = 1 ∨ j = 2 ∨ j = 3 ∨ j = 4 ∨ j = 5 ∨ j = 6 ∨ j = 7 by omega) with rfl | rfl | rfl | rfl | rfl | rfl | rfl | rfl
  · rcases Bool.eq_false_or_eq_true user with hs | hs
    · exact fin (lawOrcs_ok (l := []) (fun o ho => by cases ho)) hs traps_run0u
    · exact fin (lawOrcs_ok (l := []) (fun o ho => by cases ho)) hs traps_run0m
  · rcases Bool.eq_false_or_eq_true user with hs | hs
    · exact fin (lawOrcs_ok (l := []) (fun o ho => by cases ho)) hs traps_run1u
    · exact fin (lawOrcs_ok (l := []) (fun o ho => by cases ho)) hs traps_run1m
  · rcases Bool.eq_false_or_eq_true user with hs | hs
    · exact fin (lawOrcs_ok (l := []) (fun o ho => by cases ho)) hs traps_run2u
    · exact fin (lawOrcs_ok (l := []) (fun o ho => by cases ho)) hs traps_run2m
  · rcases Bool.eq_false_or_eq_true user with hs | hs
    · exact fin (lawOrcs_ok (l := []) (fun o ho => by cases ho)) hs traps_run3u
    · exact fin (lawOrcs_ok (l := []) (fun o ho => by cases ho)) hs traps_run3m
  · rcases Bool.eq_false_or_eq_true user with hs | hs
    · exact fin (lawOrcs_ok (l := []) (fun o ho => by cases ho)) hs traps_run4u
    · exact fin (lawOrcs_ok (l := []) (fun o ho => by cases ho)) hs traps_run4m
  · rcases Bool.eq_false_or_eq_true user with hs | hs
    · exact fin (lawOrcs_ok (l := []) (fun o ho => by cases ho)) hs traps_run5u
    · exact fin (lawOrcs_ok (l := []) (fun o ho => by cases ho)) hs traps_run5m
  · rcases Bool.eq_false_or_eq_true user with hs | hs
    · exact fin (lawOrcs_ok (l := []) (fun o ho => by cases ho)) hs traps_run6u
    · exact fin (lawOrcs_ok (l := []) (fun o ho => by cases ho)) hs traps_run6m
  · rcases Bool.eq_false_or_eq_true user with hs | hs
    · exact fin traps_orc7 hs traps_run7u
    · exact fin traps_orc7 hs traps_run7m
end Go.Proofs.YtkogjjeoihnjpaaGreat.Sx
end
