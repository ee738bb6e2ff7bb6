/- The document's Select answers as the program's. No condition. The document's Enter answers as the program's. No condition. -/
import Derived.Test.YtkogjjeoihnjpaaGreatPack52
import Derived.Test.YtkogjjeoihnjpaaGreatPack17
import Derived.Eval
import Derived.KernelRfl
import Derived.Test.YtkogjjeoihnjpaaGreatPack18
section
set_option linter.unusedVariables false
set_option linter.unusedSimpArgs false
namespace Go.Proofs.YtkogjjeoihnjpaaGreat
open Go Go.RowKit Sx
set_option maxRecDepth 100000
/-- a call answers one value -/
theorem gives_unique {P : Program} {f : FuncId} {args : Array Value} {w : World} {v v' : Value} (h : Calls P f args w (Gives v w)) (h' : Calls P f args w (Gives v' w)) (hi : P.inits.idxOf? f = none) : v = v' := by
  obtain ⟨n, v1, w1, fr1, _, e1, rfl⟩ := Calls.done_lone (R := fun x _ => x = v) (h.mono (by rintro e w1 ⟨rfl, _⟩; exact rfl)) hi
  obtain ⟨m, v2, w2, fr2, _, e2, rfl⟩ := Calls.done_lone (R := fun x _ => x = v') (h'.mono (by rintro e w1 ⟨rfl, _⟩; exact rfl)) hi
  have key : ∀ (a k : Nat) (x : Value) (wx : World) (s : Machine), runN P a s = .ended (.done x) wx → runN P (a + k) s = .ended (.done x) wx := fun a k x wx s hx => by
    rw [runN_add, hx]
  have k1 := key _ (m + 1) _ _ _ e1
  have k2 := key _ (n + 1) _ _ _ e2
  rw [Nat.add_comm (m + 1)] at k2
  rw [k1] at k2
  injection k2 with k3
  injection k3
theorem firstV_two (P : Nat → Bool) : ∃ a b, firstV P = [a, b] ∧ (b = 0 ∨ b = 1) := by
  unfold firstV
  split
  · exact ⟨_, 1, rfl, .inr rfl⟩
  · exact ⟨_, 0, rfl, .inl rfl⟩
theorem selV_two (on D : Nat) (e1 e2 : Bool) : ∃ a b, selV on D e1 e2 = [a, b] ∧ (b = 0 ∨ b = 1) := by
  unfold selV
  split
  · exact firstV_two _
  · split
    · exact firstV_two _
    · exact ⟨0, 0, rfl, .inl rfl⟩
theorem sel_eq {h ev : List Int} (hh : InB hartR h) (he : InB envR ev) : selF (h ++ ev) = selP h ev := by
  have hw : World := default
  obtain ⟨⟨k1, _⟩, k2⟩ := sel_tells (h ++ ev) (inB_append hh he) (fun q hq => by cases hq) hw
  have hargs : (shVs [.agg hartC, .agg envC] (h ++ ev)).toArray = #[.agg (hartA h), .agg (envB ev)] := by
    simp only [shVs]
    rw [cksV_more hartC h ev (by rw [hh.1]; decide), show hartC.length = h.length from hh.1.symm ▸ rfl, List.drop_left]
    rw [show cksV envC ev = cksV envC (ev ++ []) by rw [List.append_nil]] 
    rw [List.append_nil]
    rfl
  rw [hargs] at k2
  have e := gives_unique k2 (sel_ok h ev hh hw) (by kernel_rfl)
  obtain ⟨a, b, hab, hb⟩ := selV_two (onN h ev) (h.getD 36 0).toNat (en1 h) (en2 h)
  have hab : selP h ev = [a, b] := hab
  rw [hab] at e ⊢
  generalize selF (h ++ ev) = F at *
  have hl : F.length = 2 := k1.1
  match F, hl with
  | [x, y], _ =>
    have hy := inB_get k1 (i := 1) (r := BB) rfl
    have hy0 : (0 : Int) ≤ y := hy.1
    have hy1 : y ≤ (1 : Int) := hy.2
    have e : Value.tuple #[.int .u64 x, .bool (decide (y = 1))] = .tuple #[.int .u64 a, .bool (decide (b = 1))] := e
    injection e with e
    injection e with e
    simp only [List.cons.injEq, Value.int.injEq, Value.bool.injEq, true_and, and_true, decide_eq_decide] at e
    obtain ⟨rfl, e2⟩ := e
    have : y = b := by omega
    rw [this]
end Go.Proofs.YtkogjjeoihnjpaaGreat
namespace Go.Proofs.YtkogjjeoihnjpaaGreat.Sx
open Go Go.RowKit
set_option maxRecDepth 100000
theorem selR_tells : Tells Tryz.prog 23 [.agg hartC, .agg envC] selRs [] (.tup [.one cu, .one cb]) [U, BB] [] selF := fun args hi hk w => by
  obtain ⟨k1, k2⟩ := sel_tells args hi hk w
  refine ⟨k1, ?_⟩
  have hl : args.length = 76 := hi.1
  have hsp : args = args.take 66 ++ args.drop 66 := (List.take_append_drop 66 args).symm
  have hh : InB hartR (args.take 66) := ⟨by rw [List.length_take, hl]; rfl, fun j r n hj hn => by
    have hjl := (List.getElem?_eq_some_iff.1 hj).1
    have hj66 : j < 66 := hjl
    rw [List.getElem?_take_of_lt hj66] at hn
    exact hi.2 j r n (by unfold selRs; rw [List.getElem?_append_left hjl]; exact hj) hn⟩
  have he : InB envR (args.drop 66) := ⟨by rw [List.length_drop, hl]; rfl, fun j r n hj hn => by
    rw [List.getElem?_drop] at hn
    exact hi.2 (66 + j) r n (by unfold selRs; rw [List.getElem?_append_right (by show 66 ≤ _; omega), show hartR.length = 66 from rfl, Nat.add_sub_cancel_left]; exact hj) hn⟩
  have hargs : (shVs [.agg hartC, .agg envC] args).toArray = #[.agg (hartA (args.take 66)), .agg (envB (args.drop 66))] := by
    conv => lhs; rw [hsp]
    simp only [shVs]
    rw [cksV_more hartC _ _ (by rw [hh.1]; decide), show hartC.length = (args.take 66).length from hh.1.symm ▸ rfl, List.drop_left]
    rfl
  have hres : rsV (.tup [.one cu, .one cb]) (selF args) = tupV (selP (args.take 66) (args.drop 66)) := by
    conv => lhs; rw [hsp]
    rw [sel_eq hh he]
    obtain ⟨a, b, hab, hb⟩ := selV_two (onN (args.take 66) (args.drop 66)) ((args.take 66).getD 36 0).toNat (en1 (args.take 66)) (en2 (args.take 66))
    have hab : selP (args.take 66) (args.drop 66) = [a, b] := hab
    rw [hab]; rfl
  rw [hargs, hres]
  exact rsel_ok _ _ hh w
noncomputable def selRO : Orc := tellOrc 23 11 [.agg hartC, .agg envC] selRs [] (.tup [.one cu, .one cb]) [U, BB] []
theorem selRO_ok (X : Ext) (ft : Ft) (h : ft 11 = selF) : OrcOk Tryz.prog X ft selRO := tellOrc_ok (by kernel_rfl) (by kernel_rfl) (by rw [h]; exact selR_tells)
end Go.Proofs.YtkogjjeoihnjpaaGreat.Sx
end
section
set_option linter.unusedVariables false
namespace Go.Proofs.YtkogjjeoihnjpaaGreat.Sx
open Go Go.RowKit
set_option maxRecDepth 100000
theorem entR_one : (xfn Tryz.prog tab.get noOrc 5000 100 83 (argsG [.agg hartC, .one cu, .one cu] entRs) (hpF mayK)).one = true := by kernel_rfl
theorem entR_same : ((xfn Tryz.prog tab.get noOrc 5000 100 83 (argsG [.agg hartC, .one cu, .one cu] entRs) (hpF mayK)).every fun a => (xfn Tryz.prog tab.get noOrc 5000 100 24 (argsG [.agg hartC, .one cu, .one cu] entRs) (hpNext a.2)).every fun b => sameR (.one (.agg hartC)) a.1 b.1) = true := by kernel_rfl
theorem entR_tells : Tells Tryz.prog 24 [.agg hartC, .one cu, .one cu] entRs mayK (.one (.agg hartC)) hartR entK entF := fun args hi hk w =>
  ⟨(ent_tells args hi hk w).1, same_of_run (ft := fun _ _ => []) tab_ok mixed (noOrc_ok _ _ _) (by decide) (by kernel_rfl) entR_one entR_same hi hk w⟩
noncomputable def entRO : Orc := tellOrc 24 15 [.agg hartC, .one cu, .one cu] entRs mayK (.one (.agg hartC)) hartR entK
theorem entRO_ok (X : Ext) (ft : Ft) (h : ft 15 = entF) : OrcOk Tryz.prog X ft entRO := tellOrc_ok (by kernel_rfl) (by kernel_rfl) (by rw [h]; exact entR_tells)
end Go.Proofs.YtkogjjeoihnjpaaGreat.Sx
end
