/- IsaNil: the walk, run on terms. No condition. -/
import Derived.Test.YtgadnacgilbanaaGreatPack6
import Derived.Test.YtgadnacgilbanaaGreatPack8
import Derived.Test.YtgadnacgilbanaaGreatPack2
section
set_option linter.unusedVariables false
set_option linter.unusedSimpArgs false
namespace Go.Proofs.YtgadnacgilbanaaGreat.Sx
open Go Go.RowKit
set_option maxRecDepth 100000
def nilArgs : List SV := [.pv (.agg (exts 0 10)), .pv (.agg (exts 10 66)), .pv (.agg (exts 76 73)), .sc (.int .i64 (.var (-9223372036854775808) 9223372036854775807 150)), .sc (.xs 149 (.var 0 9223372036854775807 151))]
set_option maxHeartbeats 4000000 in
theorem nil_run : (xfn Tryz.prog tab.get (orcOr awOrc (loadOrc 13 149)) 5000 100 3 nilArgs hp1).everyP (fun a => a.1.isB true) [] = true := by kernel_rfl
theorem isa_nil_walk (W : World) (es hs ws : List Value) (le : es.length = 10) (lh : hs.length = 66) (lw : ws.length = 73) (oe : ∀ c ∈ es, c.oneCell' = true) (oh : ∀ c ∈ hs, c.oneCell' = true) (ow : ∀ c ∈ ws, c.oneCell' = true)
    (n : Int) (wn : (Lit.int .i64 n).wf = true) (a : Option Addr) (m c : Nat) (z : Nat → Int) (bz : ∀ i, (Lit.int .u8 (z i)).wf = true) (hr : ArgRow W a m c (fun i => .int .u8 (z i))) (hc : c * 1 ≤ 140737488351232) :
    Calls Tryz.prog 3 #[.agg es.toArray, .agg hs.toArray, .agg ws.toArray, .int .i64 n, .slice a m c] W fun e w' => e = .returned (.bool true) ∧ Below W.heap.size W w' := by
  have hmc := hr.le
  obtain ⟨n1, n2⟩ := wf_i64' wn
  let px : Nat → Option Value := fun i => if i = 149 then some (.slice a m c) else none
  let V : Env := ⟨fun i => if i = 150 then n else if i = 151 then (m : Int) else 0, fun _ => false, fun i => (es ++ (hs ++ (ws ++ [Value.slice a m c]))).getD i Go.undef, fun _ => 0, fun _ g _ => ([], g)⟩
  let C : Ctx := ⟨V, fun i => i < 1000, fun _ => none, oldExt W px, fun k => k < W.heap.size, fun _ => False⟩
  have hC : C.Is (oldExt W px) V.f := ⟨rfl, rfl, fun i v hi => by
    have : i = 149 ∧ v = .slice a m c := by
      simp only [oldExt, px] at hi
      split at hi
      · rename_i e; cases hi; exact ⟨e, rfl⟩
      · cases hi
    obtain ⟨rfl, rfl⟩ := this
    refine ⟨show 149 < 1000 by omega, ?_⟩
    show (es ++ (hs ++ (ws ++ [Value.slice a m c]))).getD 149 Go.undef = _
    simp [List.getD, List.getElem?_append, le, lh, lw]⟩
  have hH : HRel C hp1 W := ⟨⟨fun b blk h => by simp [hp1, hget] at h, fun b b' blk blk' g c c' h => by simp [hp1, hget] at h⟩, ⟨Nat.le_refl _, fun k => Iff.rfl, fun _ _ => rfl⟩, (fun b g c h => nomatch h), (fun b blk g c h => by simp [hp1, hget] at h), (hrel1 V W).free, (fun b g c h => nomatch h)⟩
  have hargs : All2 (SV.rel C) nilArgs [.agg es.toArray, .agg hs.toArray, .agg ws.toArray, .int .i64 n, .slice a m c] := by
    refine .cons ⟨es, ?_, rfl⟩ (.cons ⟨hs, ?_, rfl⟩ (.cons ⟨ws, ?_, rfl⟩ (.cons ⟨⟨show 150 < 1000 by omega, n1, n2⟩, rfl⟩ (.cons ⟨show 149 < 1000 by omega, ?_, ⟨show 151 < 1000 by omega, ?_, ?_⟩, a, m, c, rfl, rfl⟩ .nil))))
    · rw [show exts 0 10 = exts 0 es.length by rw [le]]
      refine exts_rel fun j x hj => ?_
      have hlt := (List.getElem?_eq_some_iff.1 hj).1
      refine ⟨?_, show 0 + j < 1000 by omega, oe x (List.mem_of_getElem? hj)⟩
      show (es ++ (hs ++ (ws ++ [Value.slice a m c]))).getD (0 + j) Go.undef = x
      rw [Nat.zero_add, List.getD_eq_getElem?_getD, List.getElem?_append_left hlt, hj]; rfl
    · rw [show exts 10 66 = exts 10 hs.length by rw [lh]]
      refine exts_rel fun j x hj => ?_
      have hlt := (List.getElem?_eq_some_iff.1 hj).1
      refine ⟨?_, show 10 + j < 1000 by omega, oh x (List.mem_of_getElem? hj)⟩
      show (es ++ (hs ++ (ws ++ [Value.slice a m c]))).getD (10 + j) Go.undef = x
      rw [List.getD_eq_getElem?_getD, List.getElem?_append_right (by omega), le, show 10 + j - 10 = j by omega, List.getElem?_append_left hlt, hj]; rfl
    · rw [show exts 76 73 = exts 76 ws.length by rw [lw]]
      refine exts_rel fun j x hj => ?_
      have hlt := (List.getElem?_eq_some_iff.1 hj).1
      refine ⟨?_, show 76 + j < 1000 by omega, ow x (List.mem_of_getElem? hj)⟩
      show (es ++ (hs ++ (ws ++ [Value.slice a m c]))).getD (76 + j) Go.undef = x
      rw [List.getD_eq_getElem?_getD, List.getElem?_append_right (by omega), le, List.getElem?_append_right (by omega), lh, show 76 + j - 10 - 66 = j by omega, List.getElem?_append_left hlt, hj]; rfl
    · show Value.slice a m c = (es ++ (hs ++ (ws ++ [Value.slice a m c]))).getD 149 Go.undef
      simp [List.getD, List.getElem?_append, le, lh, lw]
    · show (0 : Int) ≤ (m : Int); omega
    · show (m : Int) ≤ 9223372036854775807; omega
  have ho : OrcOk Tryz.prog (oldExt W px) V.f (orcOr awOrc (loadOrc 13 149)) := orcOr_ok (awOrc_ok _ _) (loadOrc_ok W a m c _ (argB hr bz hmc) (fun b o s e => by
    rcases hr.form with h0 | ⟨b', o', h1, h2⟩
    · rw [h0] at e; cases e
    · rw [h1] at e; cases e; exact h2) (by omega) px 149 rfl V.f)
  have := xfn_ok (X := oldExt W px) (ft := V.f) tab_ok ho mixed 5000 100 3 nilArgs hp1 C W _ hC hH hargs (fun _ a => a.1.isB true = true) (T.everyP_holds (k := []) (fun q hq => nomatch hq) nil_run)
  refine this.mono fun e w' hh => ?_
  obtain ⟨C', v', sv, hp', rfl, hrel, hH', hK, hb⟩ := hh
  have := SV.isB_ok hb
  simp only at this
  subst this
  have hext := hH'.ext
  rw [hK.le.X] at hext
  exact ⟨by rw [hrel.2]; rfl, hK.os, hK.tape, hK.output, hK.size, hext.2.2⟩
end Go.Proofs.YtgadnacgilbanaaGreat.Sx
end
