/- PipeNil: the walk, run on terms. No condition. -/
import Derived.Test.YtkhammleijbpeaaGreatPack7
section
set_option linter.unusedVariables false
set_option linter.unusedSimpArgs false
namespace Go.Proofs.YtkhammleijbpeaaGreat.Sx
open Go Go.RowKit
set_option maxRecDepth 100000
def nilArgs : List SV := [.pv (.agg (exts 0 27)), .sc (.int .u64 (.var 0 18446744073709551615 900)), .sc (.int .u64 (.var 0 18446744073709551615 901))]
set_option maxHeartbeats 4000000 in
theorem nil_run : (xfn Tryz.prog tab.get awOrc 5000 100 3 nilArgs hp1).everyP (fun a => a.1.isB true) [] = true := by kernel_rfl
theorem pipe_nil_walk (W : World) (es : List Value) (le : es.length = 27) (oe : ∀ c ∈ es, c.oneCell' = true) (lo hi : Int) (wl : (Lit.int .u64 lo).wf = true) (wh : (Lit.int .u64 hi).wf = true) :
    Calls Tryz.prog 3 #[.agg es.toArray, .int .u64 lo, .int .u64 hi] W fun e w' => e = .returned (.bool true) ∧ Below W.heap.size W w' := by
  have n1 : 0 ≤ lo ∧ lo ≤ 18446744073709551615 := by simpa [Lit.wf, IntKind.min, IntKind.max, IntKind.signed, IntKind.bits] using wl
  have n2 : 0 ≤ hi ∧ hi ≤ 18446744073709551615 := by simpa [Lit.wf, IntKind.min, IntKind.max, IntKind.signed, IntKind.bits] using wh
  let V : Env := ⟨fun i => if i = 900 then lo else if i = 901 then hi else 0, fun _ => false, fun i => es.getD i Go.undef, fun _ => 0, fun _ g _ => ([], g)⟩
  have hargs : All2 (SV.rel (ctx1 V)) nilArgs [.agg es.toArray, .int .u64 lo, .int .u64 hi] := by
    refine .cons ⟨es, ?_, rfl⟩ (.cons ⟨⟨show 900 < 1000 by omega, n1⟩, rfl⟩ (.cons ⟨⟨show 901 < 1000 by omega, n2⟩, rfl⟩ .nil))
    rw [show exts 0 27 = exts 0 es.length by rw [le]]
    refine exts_rel fun j x hj => ?_
    have hlt := (List.getElem?_eq_some_iff.1 hj).1
    refine ⟨?_, show 0 + j < 1000 by omega, oe x (List.mem_of_getElem? hj)⟩
    show es.getD (0 + j) Go.undef = x
    rw [Nat.zero_add, List.getD_eq_getElem?_getD, hj]; rfl
  have := xfn_ok (X := noExt) (ft := V.f) tab_ok (awOrc_ok _ _) mixed 5000 100 3 nilArgs hp1 (ctx1 V) W _ ⟨rfl, rfl, fun _ _ h => nomatch h⟩ (hrel1 V W) hargs (fun _ a => a.1.isB true = true) (T.everyP_holds (k := []) (fun q hq => nomatch hq) nil_run)
  refine this.mono fun e w' hh => ?_
  obtain ⟨C', v', sv, hp', rfl, hrel, hH', hK, hb⟩ := hh
  have := SV.isB_ok hb
  simp only at this
  subst this
  exact ⟨by rw [hrel.2]; rfl, hK.os, hK.tape, hK.output, hK.size, fun k hk => hK.keep k hk (fun e => e) (fun e => e)⟩
end Go.Proofs.YtkhammleijbpeaaGreat.Sx
end
