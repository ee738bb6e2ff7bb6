/- IsaReserve: the law's function. No condition. -/
import Derived.Test.YtkogjjeoihnjpaaGreatPack29
import Derived.Test.YtkogjjeoihnjpaaGreatPack30
import Derived.Test.YtkogjjeoihnjpaaGreatPack31
import Derived.Test.YtkogjjeoihnjpaaGreatPack32
import Derived.Test.YtkogjjeoihnjpaaGreatPack33
import Derived.Test.YtkogjjeoihnjpaaGreatPack34
import Derived.Test.YtkogjjeoihnjpaaGreatPack35
import Derived.Test.YtkogjjeoihnjpaaGreatPack36
import Derived.Test.YtkogjjeoihnjpaaGreatPack37
import Derived.Test.YtkogjjeoihnjpaaGreatPack38
import Derived.Test.YtkogjjeoihnjpaaGreatPack39
section
set_option linter.unusedVariables false
set_option linter.unusedSimpArgs false
namespace Go.Proofs.YtkogjjeoihnjpaaGreat.Sx
open Go Go.RowKit
set_option maxRecDepth 100000
theorem isa_reserve {h : List Int} (hh : InB hartW h) {pc : Int} {off : Int} {v : Int} {between : Int} {wide : Bool} (hpc : 0 ≤ pc ∧ pc ≤ 18446744073709551615) (hoff : -9223372036854775808 ≤ off ∧ off ≤ 9223372036854775807) (hv : 0 ≤ v ∧ v ≤ 18446744073709551615) (hbetween : -9223372036854775808 ≤ between ∧ between ≤ 9223372036854775807) (w : World) :
    Calls Tryz.prog 5 #[.agg (cksV hartC h).toArray, .int .u64 pc, .int .i64 off, .int .u64 v, .int .i64 between, .bool wide] w (Gives (.bool true) w) := by
  have hl : h.length = 66 := hh.1
  have hw : 0 ≤ IntKind.u64.wrap between ∧ IntKind.u64.wrap between ≤ 18446744073709551615 := by rw [IntKind.wrap_u64]; omega
  have hq : 0 ≤ IntKind.u64.wrap between / 5 ∧ IntKind.u64.wrap between / 5 ≤ 18446744073709551615 := by omega
  have hi : InB (hartW ++ [U, I64R, U, U, U]) (h ++ [pc, off, v, IntKind.u64.wrap between / 5, 0]) := hh.app (.cons hpc (.cons hoff (.cons hv (.cons hq (.cons ⟨by decide, by decide⟩ (.nil))))))
  have hj : (IntKind.u64.wrap between % 5).toNat < 5 := by omega
  have hr := restS2_rel (ft := fun _ _ => []) (args := h ++ [pc, off, v, IntKind.u64.wrap between / 5, 0]) (n := 5) (i := 69) (k := between) (by decide) (by decide) (getD_app 3 hl) hbetween.1 hbetween.2
  generalize (IntKind.u64.wrap between % 5).toNat = j at *
  have rel : ∀ b, wide = b → All2 (SV.rel (ctxN (fun _ _ => []) (h ++ [pc, off, v, IntKind.u64.wrap between / 5, 0]))) [hartS, uS 66, iS 67, uS 68, restS2 5 j 69, bS b] [.agg (cksV hartC h).toArray, .int .u64 pc, .int .i64 off, .int .u64 v, .int .i64 between, .bool wide] := fun b hb => by
    subst hb
    exact .cons (hartS_rel hh) (.cons (uS_rel (by decide) (getD_app 0 hl) hpc.1 hpc.2) (.cons (iS_rel (by decide) (getD_app 1 hl) hoff.1 hoff.2) (.cons (uS_rel (by decide) (getD_app 2 hl) hv.1 hv.2) (.cons (hr) (.cons (bS_rel _) (.nil))))))
  have fin : ∀ {orc : Orc} {b : Bool}, OrcOk Tryz.prog memsX (fun _ _ => []) orc → wide = b → (xfn Tryz.prog tab.get orc 5000 100 5 [hartS, uS 66, iS 67, uS 68, restS2 5 j 69, bS b] (hpN [])).every (isB' true) = true → Calls Tryz.prog 5 #[.agg (cksV hartC h).toArray, .int .u64 pc, .int .i64 off, .int .u64 v, .int .i64 between, .bool wide] w (Gives (.bool true) w) := fun ho hb hx =>
    law_of_run2 ho hi (by rw [List.length_append]; decide) (fk := []) rfl (fun q hq => by cases hq) (rel _ hb) hx w
  rcases (show j = 0 ∨ j = 1 ∨ j = 2 ∨ j = 3 ∨ j = 4 by omega) with rfl | rfl | rfl | rfl | rfl
  · rcases Bool.eq_false_or_eq_true wide with hs | hs
    · exact fin (lawOrcs_ok fun o ho => by
      simp only [List.mem_cons, List.not_mem_nil, or_false] at ho
      rcases ho with rfl | rfl | rfl
      · exact encO_ok rfl enc_lr8 _ _
      · exact encO_ok rfl enc_mid0 _ _
      · exact encO_ok rfl enc_sc8 _ _) hs res_run0w
    · exact fin (lawOrcs_ok fun o ho => by
      simp only [List.mem_cons, List.not_mem_nil, or_false] at ho
      rcases ho with rfl | rfl | rfl
      · exact encO_ok rfl enc_lr4 _ _
      · exact encO_ok rfl enc_mid0 _ _
      · exact encO_ok rfl enc_sc4 _ _) hs res_run0n
  · rcases Bool.eq_false_or_eq_true wide with hs | hs
    · exact fin (lawOrcs_ok fun o ho => by
      simp only [List.mem_cons, List.not_mem_nil, or_false] at ho
      rcases ho with rfl | rfl | rfl
      · exact encO_ok rfl enc_lr8 _ _
      · exact encO_ok rfl enc_mid1 _ _
      · exact encO_ok rfl enc_sc8 _ _) hs res_run1w
    · exact fin (lawOrcs_ok fun o ho => by
      simp only [List.mem_cons, List.not_mem_nil, or_false] at ho
      rcases ho with rfl | rfl | rfl
      · exact encO_ok rfl enc_lr4 _ _
      · exact encO_ok rfl enc_mid1 _ _
      · exact encO_ok rfl enc_sc4 _ _) hs res_run1n
  · rcases Bool.eq_false_or_eq_true wide with hs | hs
    · exact fin (lawOrcs_ok fun o ho => by
      simp only [List.mem_cons, List.not_mem_nil, or_false] at ho
      rcases ho with rfl | rfl | rfl
      · exact encO_ok rfl enc_lr8 _ _
      · exact encO_ok rfl enc_mid2 _ _
      · exact encO_ok rfl enc_sc8 _ _) hs res_run2w
    · exact fin (lawOrcs_ok fun o ho => by
      simp only [List.mem_cons, List.not_mem_nil, or_false] at ho
      rcases ho with rfl | rfl | rfl
      · exact encO_ok rfl enc_lr4 _ _
      · exact encO_ok rfl enc_mid2 _ _
      · exact encO_ok rfl enc_sc4 _ _) hs res_run2n
  · rcases Bool.eq_false_or_eq_true wide with hs | hs
    · exact fin (lawOrcs_ok fun o ho => by
      simp only [List.mem_cons, List.not_mem_nil, or_false] at ho
      rcases ho with rfl | rfl | rfl
      · exact encO_ok rfl enc_lr8 _ _
      · exact encO_ok rfl enc_mid3 _ _
      · exact encO_ok rfl enc_sc8 _ _) hs res_run3w
    · exact fin (lawOrcs_ok fun o ho => by
      simp only [List.mem_cons, List.not_mem_nil, or_false] at ho
      rcases ho with rfl | rfl | rfl
      · exact encO_ok rfl enc_lr4 _ _
      · exact encO_ok rfl enc_mid3 _ _
      · exact encO_ok rfl enc_sc4 _ _) hs res_run3n
  · rcases Bool.eq_false_or_eq_true wide with hs | hs
    · exact fin (lawOrcs_ok fun o ho => by
      simp only [List.mem_cons, List.not_mem_nil, or_false] at ho
      rcases ho with rfl | rfl | rfl
      · exact encO_ok rfl enc_lr8 _ _
      · exact encO_ok rfl enc_mid4 _ _
      · exact encO_ok rfl enc_sc8 _ _) hs res_run4w
    · exact fin (lawOrcs_ok fun o ho => by
      simp only [List.mem_cons, List.not_mem_nil, or_false] at ho
      rcases ho with rfl | rfl | rfl
      · exact encO_ok rfl enc_lr4 _ _
      · exact encO_ok rfl enc_mid4 _ _
      · exact encO_ok rfl enc_sc4 _ _) hs res_run4n
end Go.Proofs.YtkogjjeoihnjpaaGreat.Sx
end
