/- IsaLoads: the law's function. No condition. -/
import Derived.Test.YtkogjjeoihnjpaaGreatPack16
import Derived.Test.YtkogjjeoihnjpaaGreatPack17
import Derived.Test.YtkogjjeoihnjpaaGreatPack18
import Derived.Test.YtkogjjeoihnjpaaGreatPack19
import Derived.Test.YtkogjjeoihnjpaaGreatPack20
section
set_option linter.unusedVariables false
set_option linter.unusedSimpArgs false
namespace Go.Proofs.YtkogjjeoihnjpaaGreat.Sx
open Go Go.RowKit
set_option maxRecDepth 100000
theorem isa_loads {h : List Int} (hh : InB hartW h) {pc : Int} {off : Int} {k : Int} {signed : Bool} {v : Int} (hpc : 0 ≤ pc ∧ pc ≤ 18446744073709551615) (hoff : -9223372036854775808 ≤ off ∧ off ≤ 9223372036854775807) (hk : -9223372036854775808 ≤ k ∧ k ≤ 9223372036854775807) (hv : 0 ≤ v ∧ v ≤ 18446744073709551615) (w : World) :
    Calls Tryz.prog 9 #[.agg (cksV hartC h).toArray, .int .u64 pc, .int .i64 off, .int .i64 k, .bool signed, .int .u64 v] w (Gives (.bool true) w) := by
  have hl : h.length = 66 := hh.1
  have hw : 0 ≤ IntKind.u64.wrap k ∧ IntKind.u64.wrap k ≤ 18446744073709551615 := by rw [IntKind.wrap_u64]; omega
  have hq : 0 ≤ IntKind.u64.wrap k / 4 ∧ IntKind.u64.wrap k / 4 ≤ 18446744073709551615 := by omega
  have hi : InB (hartW ++ [U, I64R, U, U, U]) (h ++ [pc, off, IntKind.u64.wrap k / 4, 0, v]) := hh.app (.cons hpc (.cons hoff (.cons hq (.cons ⟨by decide, by decide⟩ (.cons hv (.nil))))))
  have hj : (IntKind.u64.wrap k % 4).toNat < 4 := by omega
  have hr := restS_rel (ft := fun _ _ => []) (args := h ++ [pc, off, IntKind.u64.wrap k / 4, 0, v]) (n := 4) (i := 68) (k := k) (by decide) (by decide) (getD_app 2 hl) hk.1 hk.2
  generalize (IntKind.u64.wrap k % 4).toNat = j at *
  have rel : ∀ b, signed = b → All2 (SV.rel (ctxN (fun _ _ => []) (h ++ [pc, off, IntKind.u64.wrap k / 4, 0, v]))) [hartS, uS 66, iS 67, restS 4 j 68, bS b, uS 70] [.agg (cksV hartC h).toArray, .int .u64 pc, .int .i64 off, .int .i64 k, .bool signed, .int .u64 v] := fun b hb => by
    subst hb
    exact .cons (hartS_rel hh) (.cons (uS_rel (by decide) (getD_app 0 hl) hpc.1 hpc.2) (.cons (iS_rel (by decide) (getD_app 1 hl) hoff.1 hoff.2) (.cons (hr) (.cons (bS_rel _) (.cons (uS_rel (by decide) (getD_app 4 hl) hv.1 hv.2) (.nil))))))
  have fin : ∀ {orc : Orc} {b : Bool}, OrcOk Tryz.prog memsX (fun _ _ => []) orc → signed = b → (xfn Tryz.prog tab.get orc 5000 100 9 [hartS, uS 66, iS 67, restS 4 j 68, bS b, uS 70] (hpN [])).every (fun a => a.1.isB true) = true → Calls Tryz.prog 9 #[.agg (cksV hartC h).toArray, .int .u64 pc, .int .i64 off, .int .i64 k, .bool signed, .int .u64 v] w (Gives (.bool true) w) := fun ho hb hx =>
    law_of_run ho hi (by rw [List.length_append]; decide) (fk := []) rfl (fun q hq => by cases hq) (rel _ hb) hx w
  rcases (show j = 0 ∨ j = 1 ∨ j = 2 ∨ j = 3 by omega) with rfl | rfl | rfl | rfl
  · rcases Bool.eq_false_or_eq_true signed with hs | hs
    · exact fin (lawOrcs_ok fun o ho => by
      simp only [List.mem_cons, List.not_mem_nil, or_false] at ho
      rcases ho with rfl | rfl
      · exact encO_ok rfl enc_st0 _ _
      · exact encO_ok rfl enc_ld0s _ _) hs loads_run0s
    · exact fin (lawOrcs_ok fun o ho => by
      simp only [List.mem_cons, List.not_mem_nil, or_false] at ho
      rcases ho with rfl | rfl
      · exact encO_ok rfl enc_st0 _ _
      · exact encO_ok rfl enc_ld0u _ _) hs loads_run0u
  · rcases Bool.eq_false_or_eq_true signed with hs | hs
    · exact fin (lawOrcs_ok fun o ho => by
      simp only [List.mem_cons, List.not_mem_nil, or_false] at ho
      rcases ho with rfl | rfl
      · exact encO_ok rfl enc_st1 _ _
      · exact encO_ok rfl enc_ld1s _ _) hs loads_run1s
    · exact fin (lawOrcs_ok fun o ho => by
      simp only [List.mem_cons, List.not_mem_nil, or_false] at ho
      rcases ho with rfl | rfl
      · exact encO_ok rfl enc_st1 _ _
      · exact encO_ok rfl enc_ld1u _ _) hs loads_run1u
  · rcases Bool.eq_false_or_eq_true signed with hs | hs
    · exact fin (lawOrcs_ok fun o ho => by
      simp only [List.mem_cons, List.not_mem_nil, or_false] at ho
      rcases ho with rfl | rfl
      · exact encO_ok rfl enc_st2 _ _
      · exact encO_ok rfl enc_ld2s _ _) hs loads_run2s
    · exact fin (lawOrcs_ok fun o ho => by
      simp only [List.mem_cons, List.not_mem_nil, or_false] at ho
      rcases ho with rfl | rfl
      · exact encO_ok rfl enc_st2 _ _
      · exact encO_ok rfl enc_ld2u _ _) hs loads_run2u
  · rcases Bool.eq_false_or_eq_true signed with hs | hs
    · exact fin (lawOrcs_ok fun o ho => by
      simp only [List.mem_cons, List.not_mem_nil, or_false] at ho
      rcases ho with rfl | rfl
      · exact encO_ok rfl enc_st3 _ _
      · exact encO_ok rfl enc_ld3s _ _) hs loads_run3s
    · exact fin (lawOrcs_ok fun o ho => by
      simp only [List.mem_cons, List.not_mem_nil, or_false] at ho
      rcases ho with rfl | rfl
      · exact encO_ok rfl enc_st3 _ _
      · exact encO_ok rfl enc_ld3s _ _) hs loads_run3u
end Go.Proofs.YtkogjjeoihnjpaaGreat.Sx
end
