/- What an access is made of, told by functions on numbers. No condition. A call answers one value. No condition. Small lemmas on worlds, blocks and bytes that the walks of this seat use. No condition. What lies where: pma.find and what leans on it. No condition. Contracts of pma.Region, Cached, Offset. No condition. Memory as data: the pages' blocks, the map that leads to them, and what the bytes are (no walk). No condition. Contracts of Ram.get, set, all, New. No condition. -/
import Derived.Test.YtkogjjeoihnjpaaGreatPack8
import Derived.Test.YtkogjjeoihnjpaaGreatPack9
import Derived.Test.YtkogjjeoihnjpaaGreatPack10
import Derived.KernelRfl
import Derived.Eval
import Derived.Test.YtkogjjeoihnjpaaGreatRows
import Derived.WalkKit
import Derived.WalkSpells
import Derived.WalkLawsBesides
import Derived.Lib.Hide
import Derived.Deep.OwnRows
import Derived.Deep.QuietTactic
import Derived.BigQuiet
import Derived.StillTailTactics
import Derived.BigRegion
import Derived.Deep.RegionWith
import Derived.Deep.RegionHeld3
import Derived.Deep.LoopGhost
import Derived.Deep.DeepCutAuto
import Derived.Deep.DeepFit
import Derived.Deep.DeepMust
import Derived.Handy
import Derived.Maps.OwnOps
import Derived.Maps.RangeWalk
import Derived.Maps.Views
import Derived.Maps.Ext
section
set_option linter.unusedVariables false
namespace Go.Proofs.YtkogjjeoihnjpaaGreat.Sx
open Go Go.RowKit
set_option maxRecDepth 100000
/-- what is asked: any number says which operation -/
def wnR : List (Int × Int) := [U, R 8, R 3, U, BB, II, BB] ++ hartR
def pteC : List CK := [ci, cu, cu, cu, cu]
def pteR : List (Int × Int) := [R 2, U, U, U, U]
/-! ### isa.Misplaced -/
def mspRs : List (Int × Int) := wnR
theorem msp_ran : ranB (xfn Tryz.prog tab.get noOrc 5000 100 60 (argsG [.agg wantC] mspRs) (hpF [])) (.one (.one cu)) [R 7] mspRs [] = true := by kernel_rfl
noncomputable def mspF : List Int → List Int := Fof (xfn Tryz.prog tab.get noOrc 5000 100 60 (argsG [.agg wantC] mspRs) (hpF [])) (.one (.one cu)) (fun _ _ => [])
theorem msp_tells : Tells Tryz.prog 60 [.agg wantC] mspRs [] (.one (.one cu)) [R 7] [] mspF := tells_of_run tab_ok mixed (noOrc_ok _ _ _) (by decide) (by kernel_rfl) (by kernel_rfl) msp_ran
noncomputable def mspO : Orc := tellOrc 60 23 [.agg wantC] mspRs [] (.one (.one cu)) [R 7] []
theorem mspO_ok (X : Ext) (ft : Ft) (h : ft 23 = mspF) : OrcOk Tryz.prog X ft mspO := tellOrc_ok (by kernel_rfl) (by kernel_rfl) (by rw [h]; exact msp_tells)
/-! ### trap.Priv -/
def priRs : List (Int × Int) := hartR ++ [R 3]
theorem pri_ran : ranB (xfn Tryz.prog tab.get noOrc 5000 100 140 (argsG [.agg hartC, .one ci] priRs) (hpF [])) (.one (.one ci)) [R 3] priRs [] = true := by kernel_rfl
noncomputable def priF : List Int → List Int := Fof (xfn Tryz.prog tab.get noOrc 5000 100 140 (argsG [.agg hartC, .one ci] priRs) (hpF [])) (.one (.one ci)) (fun _ _ => [])
theorem pri_tells : Tells Tryz.prog 140 [.agg hartC, .one ci] priRs [] (.one (.one ci)) [R 3] [] priF := tells_of_run tab_ok mixed (noOrc_ok _ _ _) (by decide) (by kernel_rfl) (by kernel_rfl) pri_ran
noncomputable def priO : Orc := tellOrc 140 24 [.agg hartC, .one ci] priRs [] (.one (.one ci)) [R 3] []
theorem priO_ok (X : Ext) (ft : Ft) (h : ft 24 = priF) : OrcOk Tryz.prog X ft priO := tellOrc_ok (by kernel_rfl) (by kernel_rfl) (by rw [h]; exact pri_tells)
/-! ### walk.On -/
def onnRs : List (Int × Int) := [U, R 3]
theorem onn_ran : ranB (xfn Tryz.prog tab.get noOrc 5000 100 141 (argsG [.one cu, .one ci] onnRs) (hpF [])) (.one (.one cb)) [BB] onnRs [] = true := by kernel_rfl
noncomputable def onnF : List Int → List Int := Fof (xfn Tryz.prog tab.get noOrc 5000 100 141 (argsG [.one cu, .one ci] onnRs) (hpF [])) (.one (.one cb)) (fun _ _ => [])
theorem onn_tells : Tells Tryz.prog 141 [.one cu, .one ci] onnRs [] (.one (.one cb)) [BB] [] onnF := tells_of_run tab_ok mixed (noOrc_ok _ _ _) (by decide) (by kernel_rfl) (by kernel_rfl) onn_ran
noncomputable def onnO : Orc := tellOrc 141 25 [.one cu, .one ci] onnRs [] (.one (.one cb)) [BB] []
theorem onnO_ok (X : Ext) (ft : Ft) (h : ft 25 = onnF) : OrcOk Tryz.prog X ft onnO := tellOrc_ok (by kernel_rfl) (by kernel_rfl) (by rw [h]; exact onn_tells)
/-! ### walk.Check -/
def chkRs : List (Int × Int) := pteR ++ [R 3, R 3, BB, BB]
theorem chk_ran : ranB (xfn Tryz.prog tab.get noOrc 5000 100 145 (argsG [.agg pteC, .one ci, .one ci, .one cb, .one cb] chkRs) (hpF [])) (.one (.one cb)) [BB] chkRs [] = true := by kernel_rfl
noncomputable def chkF : List Int → List Int := Fof (xfn Tryz.prog tab.get noOrc 5000 100 145 (argsG [.agg pteC, .one ci, .one ci, .one cb, .one cb] chkRs) (hpF [])) (.one (.one cb)) (fun _ _ => [])
theorem chk_tells : Tells Tryz.prog 145 [.agg pteC, .one ci, .one ci, .one cb, .one cb] chkRs [] (.one (.one cb)) [BB] [] chkF := tells_of_run tab_ok mixed (noOrc_ok _ _ _) (by decide) (by kernel_rfl) (by kernel_rfl) chk_ran
noncomputable def chkO : Orc := tellOrc 145 26 [.agg pteC, .one ci, .one ci, .one cb, .one cb] chkRs [] (.one (.one cb)) [BB] []
theorem chkO_ok (X : Ext) (ft : Ft) (h : ft 26 = chkF) : OrcOk Tryz.prog X ft chkO := tellOrc_ok (by kernel_rfl) (by kernel_rfl) (by rw [h]; exact chk_tells)
/-! ### walk.Marks -/
def mrkRs : List (Int × Int) := pteR ++ [R 3]
theorem mrk_ran : ranB (xfn Tryz.prog tab.get noOrc 5000 100 146 (argsG [.agg pteC, .one ci] mrkRs) (hpF [])) (.tup [.one cu, .one cb]) [U, BB] mrkRs [] = true := by kernel_rfl
noncomputable def mrkF : List Int → List Int := Fof (xfn Tryz.prog tab.get noOrc 5000 100 146 (argsG [.agg pteC, .one ci] mrkRs) (hpF [])) (.tup [.one cu, .one cb]) (fun _ _ => [])
theorem mrk_tells : Tells Tryz.prog 146 [.agg pteC, .one ci] mrkRs [] (.tup [.one cu, .one cb]) [U, BB] [] mrkF := tells_of_run tab_ok mixed (noOrc_ok _ _ _) (by decide) (by kernel_rfl) (by kernel_rfl) mrk_ran
noncomputable def mrkO : Orc := tellOrc 146 27 [.agg pteC, .one ci] mrkRs [] (.tup [.one cu, .one cb]) [U, BB] []
theorem mrkO_ok (X : Ext) (ft : Ft) (h : ft 27 = mrkF) : OrcOk Tryz.prog X ft mrkO := tellOrc_ok (by kernel_rfl) (by kernel_rfl) (by rw [h]; exact mrk_tells)
/-! ### walk.Fault -/
def fltRs : List (Int × Int) := [R 3, BB]
theorem flt_ran : ranB (xfn Tryz.prog tab.get noOrc 5000 100 144 (argsG [.one ci, .one cb] fltRs) (hpF [])) (.one (.one cu)) [R 15] fltRs [] = true := by kernel_rfl
noncomputable def fltF : List Int → List Int := Fof (xfn Tryz.prog tab.get noOrc 5000 100 144 (argsG [.one ci, .one cb] fltRs) (hpF [])) (.one (.one cu)) (fun _ _ => [])
theorem flt_tells : Tells Tryz.prog 144 [.one ci, .one cb] fltRs [] (.one (.one cu)) [R 15] [] fltF := tells_of_run tab_ok mixed (noOrc_ok _ _ _) (by decide) (by kernel_rfl) (by kernel_rfl) flt_ran
noncomputable def fltO : Orc := tellOrc 144 29 [.one ci, .one cb] fltRs [] (.one (.one cu)) [R 15] []
theorem fltO_ok (X : Ext) (ft : Ft) (h : ft 29 = fltF) : OrcOk Tryz.prog X ft fltO := tellOrc_ok (by kernel_rfl) (by kernel_rfl) (by rw [h]; exact flt_tells)
/-! ### pma.May -/
def pmmRs : List (Int × Int) := [(.ofNat 4, .ofNat 256), U, R 8, R 3, BB]
theorem pmm_ran : ranB (xfn Tryz.prog tab.get noOrc 5000 100 148 (argsG [.one ci, .one cu, .one ci, .one ci, .one cb] pmmRs) (hpF [])) (.one (.one cb)) [BB] pmmRs [] = true := by kernel_rfl
noncomputable def pmmF : List Int → List Int := Fof (xfn Tryz.prog tab.get noOrc 5000 100 148 (argsG [.one ci, .one cu, .one ci, .one ci, .one cb] pmmRs) (hpF [])) (.one (.one cb)) (fun _ _ => [])
theorem pmm_tells0 : Tells Tryz.prog 148 [.one ci, .one cu, .one ci, .one ci, .one cb] pmmRs [] (.one (.one cb)) [BB] [] pmmF := tells_of_run tab_ok mixed (noOrc_ok _ _ _) (by decide) (by kernel_rfl) (by kernel_rfl) pmm_ran
/-! ### pma.Device -/
def devRs : List (Int × Int) := [(.ofNat 4, .ofNat 256), U]
theorem dev_ran : ranB (xfn Tryz.prog tab.get noOrc 5000 100 62 (argsG [.one ci, .one cu] devRs) (hpF [])) (.one (.one cb)) [BB] devRs [] = true := by kernel_rfl
noncomputable def devF : List Int → List Int := Fof (xfn Tryz.prog tab.get noOrc 5000 100 62 (argsG [.one ci, .one cu] devRs) (hpF [])) (.one (.one cb)) (fun _ _ => [])
theorem dev_tells0 : Tells Tryz.prog 62 [.one ci, .one cu] devRs [] (.one (.one cb)) [BB] [] devF := tells_of_run tab_ok mixed (noOrc_ok _ _ _) (by decide) (by kernel_rfl) (by kernel_rfl) dev_ran
/-! ### isa.Stored -/
def stoRs : List (Int × Int) := wnR ++ [U, U]
theorem sto_ran : ranB (xfn Tryz.prog tab.get noOrc 5000 100 64 (argsG [.agg wantC, .one cu, .one cu] stoRs) (hpF [])) (.tup [.one cu, .one cb]) [U, BB] stoRs [] = true := by kernel_rfl
noncomputable def stoF : List Int → List Int := Fof (xfn Tryz.prog tab.get noOrc 5000 100 64 (argsG [.agg wantC, .one cu, .one cu] stoRs) (hpF [])) (.tup [.one cu, .one cb]) (fun _ _ => [])
theorem sto_tells : Tells Tryz.prog 64 [.agg wantC, .one cu, .one cu] stoRs [] (.tup [.one cu, .one cb]) [U, BB] [] stoF := tells_of_run tab_ok mixed (noOrc_ok _ _ _) (by decide) (by kernel_rfl) (by kernel_rfl) sto_ran
noncomputable def stoO : Orc := tellOrc 64 32 [.agg wantC, .one cu, .one cu] stoRs [] (.tup [.one cu, .one cb]) [U, BB] []
theorem stoO_ok (X : Ext) (ft : Ft) (h : ft 32 = stoF) : OrcOk Tryz.prog X ft stoO := tellOrc_ok (by kernel_rfl) (by kernel_rfl) (by rw [h]; exact sto_tells)
/-! ### isa.Told -/
def tolRs : List (Int × Int) := wnR ++ [U, BB]
theorem tol_ran : ranB (xfn Tryz.prog tab.get noOrc 5000 100 66 (argsG [.agg wantC, .one cu, .one cb] tolRs) (hpF [])) (.one (.one cu)) [U] tolRs [] = true := by kernel_rfl
noncomputable def tolF : List Int → List Int := Fof (xfn Tryz.prog tab.get noOrc 5000 100 66 (argsG [.agg wantC, .one cu, .one cb] tolRs) (hpF [])) (.one (.one cu)) (fun _ _ => [])
theorem tol_tells : Tells Tryz.prog 66 [.agg wantC, .one cu, .one cb] tolRs [] (.one (.one cu)) [U] [] tolF := tells_of_run tab_ok mixed (noOrc_ok _ _ _) (by decide) (by kernel_rfl) (by kernel_rfl) tol_ran
noncomputable def tolO : Orc := tellOrc 66 33 [.agg wantC, .one cu, .one cb] tolRs [] (.one (.one cu)) [U] []
theorem tolO_ok (X : Ext) (ft : Ft) (h : ft 33 = tolF) : OrcOk Tryz.prog X ft tolO := tellOrc_ok (by kernel_rfl) (by kernel_rfl) (by rw [h]; exact tol_tells)
end Go.Proofs.YtkogjjeoihnjpaaGreat.Sx
end
section
set_option linter.unusedVariables false
set_option linter.unusedSimpArgs false
namespace Go.Proofs.YtkogjjeoihnjpaaGreat
open Go Go.RowKit Sx
/-- a call answers one value -/
theorem gives_unique {P : Program} {f : FuncId} {args : Array Value} {w : World} {v v' : Value} (h : Calls P f args w (Gives v w)) (h' : Calls P f args w (Gives v' w)) (hi : P.inits.idxOf? f = none) : v = v' := by
  obtain ⟨n, v1, w1, fr1, _, e1, rfl⟩ := Calls.done_lone (R := fun x _ => x = v) (h.mono (by rintro e w1 ⟨rfl, _⟩; exact rfl)) hi
  obtain ⟨m, v2, w2, fr2, _, e2, rfl⟩ := Calls.done_lone (R := fun x _ => x = v') (h'.mono (by rintro e w1 ⟨rfl, _⟩; exact rfl)) hi
  have key : ∀ (a k : Nat) (x : Value) (wx : World) (s : Machine), runN P a s = .ended (.done x) wx → runN P (a + k) s = .ended (.done x) wx := fun a k x wx s hx => by
    rw [runN_add, hx]
  have k1 := key _ (m + 1) _ _ _ e1
  have k2 := key _ (n + 1) _ _ _ e2
  rw [Nat.add_comm (m + 1)] at k2
  rw [k1] at k2
  injection k2 with k3
  injection k3
end Go.Proofs.YtkogjjeoihnjpaaGreat
end
section
set_option linter.unusedVariables false
set_option linter.unusedSimpArgs false
namespace Go.Proofs.YtkogjjeoihnjpaaGreat
open Go.RowKit

theorem blk_cell {w : World} {b : Nat} {C : Array Value} {T : TypeId} {fz : Nat × Nat} (h : w.heap[b]? = some (.cells C T fz)) (o : Nat) : w.cell? ⟨b, o, none⟩ = C[o]? := by
  simp [World.cell?, h]
theorem blk_frozen {w : World} {b : Nat} {C : Array Value} {T : TypeId} (h : w.heap[b]? = some (.cells C T (0, 0))) (o : Nat) : w.frozen? ⟨b, o, none⟩ = false := by
  simp [World.frozen?, h]
theorem blk_set {w : World} {b : Nat} {C : Array Value} {T : TypeId} {fz : Nat × Nat} (h : w.heap[b]? = some (.cells C T fz)) (o : Nat) (v : Value) :
    (w.setCell ⟨b, o, none⟩ v).heap[b]? = some (.cells (C.setIfInBounds o v) T fz) := by
  simp [World.setCell, Array.getElem?_modify, h]
theorem blk_set_ne {w : World} {b : Nat} (a : Addr) (v : Value) (hne : a.block ≠ b) : (w.setCell a v).heap[b]? = w.heap[b]? := by
  simp [World.setCell, Array.getElem?_modify, hne]
theorem blk_alloc (w : World) (o : Obj) : (w.alloc o).heap[w.heap.size]? = some o := heap_alloc_new w o
theorem blk_alloc_old (w : World) (o : Obj) (b : Nat) (h : b < w.heap.size) : (w.alloc o).heap[b]? = w.heap[b]? := Below.heap_alloc w o b h
theorem blk_lt {w : World} {b : Nat} {o : Obj} (h : w.heap[b]? = some o) : b < w.heap.size := (Array.getElem?_eq_some_iff.1 h).1
theorem blk_below {B : Nat} {w w' : World} (h : Below B w w') {b : Nat} (hb : b < B) {o : Obj} (hh : w.heap[b]? = some o) : w'.heap[b]? = some o := (h.block b hb).trans hh
theorem below_cells {W w1 : World} (hb : Below W.heap.size W w1) : (∀ b o, b < W.heap.size → w1.cell? ⟨b, o, none⟩ = W.cell? ⟨b, o, none⟩) ∧ (∀ b o, b < W.heap.size → w1.frozen? ⟨b, o, none⟩ = W.frozen? ⟨b, o, none⟩) :=
  ⟨fun b o h => hb.cell (p := ⟨b, o, none⟩) h, fun b o h => hb.frozen (p := ⟨b, o, none⟩) h⟩

theorem A_info5 : (Tryz.prog.info? 5).map (fun i => (i.zero, i.size, i.bytes)) = some (some (.int .u8 0), 1, 1) := by kernel_rfl
theorem A_info4 : (Tryz.prog.info? 4).map (fun i => (i.zero, i.size, i.bytes)) = some (some (.bool false), 1, 1) := by kernel_rfl

theorem ret_int {k : IntKind} {a b : Int} (h : a = b) : Ending.returned (.int k a) = .returned (.int k b) := by rw [h]
theorem ret_bool {a b : Bool} (h : a = b) : Ending.returned (.bool a) = .returned (.bool b) := by rw [h]
theorem cell_set (w : World) (b o b' o' : Nat) (v : Value) : (w.setCell ⟨b, o, none⟩ v).cell? ⟨b', o', none⟩ = if b = b' ∧ o = o' then (w.cell? ⟨b', o', none⟩).map (fun _ => v) else w.cell? ⟨b', o', none⟩ := by
  simp only [World.cell?, World.setCell, Array.getElem?_modify]
  by_cases hb : b = b'
  · subst hb
    simp only [if_true, true_and]
    cases hh : w.heap[b]? with
    | none => simp
    | some ob =>
      cases ob <;> simp
      rw [Array.getElem?_setIfInBounds]
      split
      · rename_i h; subst h; split <;> simp_all
      · rfl
  · simp [hb]
theorem frozen_set (w : World) (a : Addr) (v : Value) (p : Addr) : (w.setCell a v).frozen? p = w.frozen? p := by
  simp only [World.frozen?, World.setCell, Array.getElem?_modify]
  by_cases h : a.block = p.block
  · rw [if_pos h]
    cases hh : w.heap[p.block]? with
    | none => simp
    | some ob => cases ob <;> simp
  · rw [if_neg h]

/-! ### append: onto a row of the call's own, from whatever slice of one-cell elements (nil too) -/
/-- the m cells that a slice leads to hold 'news' -/
def SrcIs (w : World) (ad : Option Addr) (m : Nat) (news : List Value) : Prop :=
  news.length = m ∧ ((ad = none ∧ m = 0) ∨ ∃ b o, ad = some ⟨b, o, none⟩ ∧ ∀ i, i < m → w.cell? ⟨b, o + i, none⟩ = news[i]?)
theorem addr_add (b o i : Nat) : (⟨b, o, none⟩ : Addr).add i = ⟨b, o + i, none⟩ := by unfold Addr.add; split <;> simp_all
theorem run_append_nothing {P : Program} (w : World) (base : Nat) (t ty e : TypeId) (i : TypeInfo) (ht : P.underlying t = some (.slice e)) (hi : P.info? e = some i)
    (v : Value) (n : Nat) (xs : List Value) (hown : w.ownsRow base e i.size v n xs) (c : Nat) :
    (Builtin.append_ #[t, t] ty #[v, .slice none 0 c]).run P w = .ok v w := by
  rcases hown.2 with ⟨rfl, rfl⟩ | ⟨g, cap, cur, rfl, hbg, hg, hnc, hcm, hcs, htake⟩
  · simp [Builtin.append_, run_underlying ht, sizeOf, typeInfo, hi, Builtin.lenOf, Builtin.firstCells, loadCells, loadCellsFrom]
  · simp [Builtin.append_, run_underlying ht, sizeOf, typeInfo, hi, Builtin.lenOf, Builtin.firstCells, loadCells, loadCellsFrom, hnc, storeCells]
theorem wpList_app {P : Program} {w : World} {ops : Array Oper} {rest : List Oper} {o : Oper} {a : Act} {Q : Exit → Act → World → Prop} (hgd : o.guard = none) (s x : Operand) (t : TypeId)
    (ho : o.op = .call { callee := .builtin .append, args := #[s, x], argTypes := #[t, t] })
    (base : Nat) (e : TypeId) (z : Value) (bytes : Nat) (ht : P.underlying t = some (.slice e)) (hinfo : (P.info? e).map (fun i => (i.zero, i.size, i.bytes)) = some (some z, 1, bytes)) (hz1 : z.cells = #[z])
    (v : Value) (n : Nat) (xs : List Value) (hs : a.eval s = v) (hown : w.ownsRow base e 1 v n xs)
    (ad : Option Addr) (m c : Nat) (news : List Value) (hx : a.eval x = .slice ad m c) (hsrc : SrcIs w ad m news) (h1 : ∀ u ∈ news, u.oneCell' = true)
    (hbytes : (n + m) * bytes ≤ 140737488355328) (h63 : n + m ≤ maxLen) (hbase : base ≤ w.heap.size)
    (h : ∀ v' w', w'.ownsRow base e 1 v' (n + m) (xs ++ news) → w.grownBy w' v.ownBlock → (v' = .slice none 0 0 ↔ v = .slice none 0 0 ∧ m = 0) → wpList P ops Q rest (a.put o.dst v') w') : wpList P ops Q (o :: rest) a w := by
  obtain ⟨i, hi, hzz⟩ := Option.map_eq_some_iff.1 hinfo
  simp only [Prod.mk.injEq] at hzz
  obtain ⟨hz, hsz, hb⟩ := hzz
  rcases hsrc with ⟨hl, ⟨rfl, rfl⟩ | ⟨b, of, rfl, hc⟩⟩
  · have hr := run_append_nothing (P := P) w base t o.type e i ht hi v n xs (by rw [hsz]; exact hown) c
    have hn : news = [] := List.eq_nil_of_length_eq_zero hl
    subst hn
    refine wpList_plain hgd fun K hK => ?_
    unfold Oper.wp execOp
    simp only [ho, resolve, invoke, builtin, Sem.run_bind, Sem.run_pure, Result.andThen_ok, List.map_toArray, List.map_cons, List.map_nil, hs, hx, hr]
    exact hK _ _ (h v w (by simpa using hown) ⟨rfl, rfl, rfl, Nat.le_refl _, fun _ _ _ => rfl⟩ (by simp))
  · refine wpList_append_own (w := w) hgd s x t ho base e i z 1 bytes ht hi hz hsz hb (by simp [hz1]) (by omega) v n xs hs hown ⟨b, of, none⟩ m c news hx (by omega) ?_ h1 h63 hbytes hbase h
    intro j u hu
    have hj : j < m := by rw [← hl]; exact (List.getElem?_eq_some_iff.1 hu).1
    rw [addr_add, hc j hj, hu]

theorem src_one (w : World) (v : Value) (T : TypeId) : SrcIs (w.alloc (.cells #[v] T)) (some ⟨w.heap.size, 0, none⟩) 1 [v] := by
  refine ⟨rfl, .inr ⟨_, _, rfl, fun i hi => ?_⟩⟩
  obtain rfl : i = 0 := by omega
  rw [blk_cell (blk_alloc w _)]
  rfl
theorem below_grown {w w' : World} (h : Below w.heap.size w w') (row : Option Nat) : w.grownBy w' row := ⟨h.os, h.tape, h.output, h.size, fun k hk _ => h.block k hk⟩
theorem own_below {w w' : World} {base : Nat} {e : TypeId} {size : Nat} {v : Value} {n : Nat} {xs : List Value} (h : w.ownsRow base e size v n xs) (hb : Below w.heap.size w w') : w'.ownsRow base e size v n xs :=
  h.kept (below_grown hb none) (by cases hv : v.ownBlock <;> simp)
/-- what holds above what was there before both -/
theorem below_then {B : Nat} {a b c : World} (h : Below B a b) (k : Below b.heap.size b c) (hB : B ≤ b.heap.size) : Below B a c := h.trans (k.mono hB)
theorem own_base {B : Nat} {w w' : World} {base : Nat} {e : TypeId} {size : Nat} {v : Value} {n : Nat} {xs : List Value} (h : w.ownsRow base e size v n xs) (hg : w.grownBy w' v.ownBlock) {a : World} (hb : Below B a w) (hB : B ≤ w.heap.size) (hbase : B ≤ base) : Below B a w' :=
  hb.grown hg hB fun k hk => Nat.le_trans hbase (h.lt k hk).1
/-! ### one old block may be written: 'grownBy .. (some b)' -/
theorem grown_refl (w : World) (row : Option Nat) : w.grownBy w row := ⟨rfl, rfl, rfl, Nat.le_refl _, fun _ _ _ => rfl⟩
theorem grown_trans {a b c : World} {row : Option Nat} (h : a.grownBy b row) (k : b.grownBy c row) : a.grownBy c row :=
  ⟨k.os.trans h.os, k.tape.trans h.tape, k.output.trans h.output, Nat.le_trans h.size k.size, fun i hi hr => (k.block i (Nat.lt_of_lt_of_le hi h.size) hr).trans (h.block i hi hr)⟩
theorem grown_drew {a w : World} {row : Option Nat} (h : a.grownBy w row) : a.grownBy w.drew row := ⟨h.os, h.tape, h.output, h.size, h.block⟩
theorem grown_drewN {a w : World} {row : Option Nat} (h : a.grownBy w row) (n : Nat) : a.grownBy (w.drewN n) row := ⟨h.os, h.tape, h.output, h.size, h.block⟩
theorem grown_alloc {a w : World} {row : Option Nat} (h : a.grownBy w row) (o : Obj) : a.grownBy (w.alloc o) row := grown_trans h (World.grownBy_alloc w o row)
theorem grown_set {a w : World} {b : Nat} (h : a.grownBy w (some b)) (o : Nat) (v : Value) : a.grownBy (w.setCell ⟨b, o, none⟩ v) (some b) :=
  grown_trans h ⟨rfl, rfl, rfl, by simp [World.setCell], fun k _ hk => Below.heap_setCell _ _ _ _ (by simpa using hk)⟩
theorem grown_below {B : Nat} {a w w' : World} {b : Nat} (h : Below B a w) (hg : w.grownBy w' (some b)) (hB : B ≤ w.heap.size) (hb : B ≤ b) : Below B a w' := h.grown hg hB (by rintro k ⟨⟩; exact hb)
theorem below_setRow {B : Nat} {a w : World} (h : Below B a w) {g : Nat} (hg : B ≤ g) (cs : Array Value) : Below B a (w.setRow g cs) :=
  h.trans ⟨rfl, rfl, rfl, by simp, fun k hk => setRow_other w g k cs (by omega)⟩
end Go.Proofs.YtkogjjeoihnjpaaGreat
end
section
set_option linter.unusedVariables false
set_option linter.unusedSimpArgs false
namespace Go.Proofs.YtkogjjeoihnjpaaGreat
open Go.RowKit
/-- the region of an address: its kind, base and size, and how far the address is above its base -/
def pmaFind (n : Nat) (x : Int) : Int × Int × Int × Int :=
  if 4096 ≤ x ∧ x < 8192 then (1, 4096, 4096, x - 4096) else if 33554432 ≤ x ∧ x < 33619968 then (2, 33554432, 65536, x - 33554432)
  else if 201326592 ≤ x ∧ x < 205520896 then (3, 201326592, 4194304, x - 201326592) else if 268435456 ≤ x ∧ x < 268439552 then (4, 268435456, 4096, x - 268435456)
  else if 2147483648 ≤ x ∧ x < 2147483648 + n * 4096 then (5, 2147483648, n * 4096, x - 2147483648) else (0, 0, 0, 0)
set_option maxRecDepth 100000 in
set_option maxHeartbeats 1000000 in
theorem pma_regions (n : Nat) (h4 : 4 ≤ n) (h256 : n ≤ 256) (w : World) :
    Calls Tryz.prog 265 #[.int .i64 n] w fun e w' => e = .returned (.slice (some ⟨w.heap.size, 0, none⟩) 5 5) ∧ w' = w.alloc (.cells #[.int .i64 1, .int .u64 4096, .int .u64 4096, .int .i64 2, .int .u64 33554432, .int .u64 65536, .int .i64 3, .int .u64 201326592, .int .u64 4194304, .int .i64 4, .int .u64 268435456, .int .u64 4096, .int .i64 5, .int .u64 2147483648, .int .u64 ((n : Int) * 4096)] 225) := by
  go_enter Tryz.func265, Tryz.ntmps265
  go_wp2
  go_ret
  exact ⟨rfl, rfl⟩
def FindIs (n : Nat) (x : Int) (w : World) (e : Ending) (w' : World) : Prop := e = .returned (.tuple #[.agg #[.int .i64 (pmaFind n x).1, .int .u64 (pmaFind n x).2.1, .int .u64 (pmaFind n x).2.2.1], .int .u64 (pmaFind n x).2.2.2]) ∧ Below w.heap.size w w'
theorem FindIs.of {n : Nat} {x : Int} {w : World} {e : Ending} {w' : World} (k b s o : Int) (hp : Hid (pmaFind n x = (k, b, s, o))) (he : e = .returned (.tuple #[.agg #[.int .i64 k, .int .u64 b, .int .u64 s], .int .u64 o])) (hb : Below w.heap.size w w') : FindIs n x w e w' := by
  unfold FindIs
  rw [hp.out]
  exact ⟨he, hb⟩

set_option maxRecDepth 100000 in
set_option maxHeartbeats 4000000 in
theorem pma_find_r1 (n : Nat) (h4 : 4 ≤ n) (h256 : n ≤ 256) (x : Int) (h0 : 4096 ≤ x) (h1 : x < 8192) (w : World) :
    Calls Tryz.prog 236 #[.int .i64 n, .int .u64 x] w (FindIs n x w) := by
  have hp := Lib.hid (show pmaFind n x = (1, 4096, 4096, x - 4096) by unfold pmaFind; repeat (first | rfl | rw [if_pos (by omega)] | rw [if_neg (by omega)]))
  go_enter Tryz.func236, Tryz.ntmps236
  go_wp2_with fail
  refine (pma_regions n h4 h256 _).mono ?_
  rintro e w1 ⟨rfl, rfl⟩
  go_wp2_with fail
  go_rounds 6
  all_goals (try go_region)
  all_goals (try go_wp2_with fail)
  all_goals exact bodyPost_ret (v := .tuple #[.agg #[.int .i64 (1), .int .u64 (4096), .int .u64 (4096)], .int .u64 (x - 4096)]) (by simp [results, Tryz.results236, go_sem]) rfl (FindIs.of _ _ _ _ hp rfl (by go_grown))


set_option maxRecDepth 100000 in
set_option maxHeartbeats 4000000 in
theorem pma_find_r2 (n : Nat) (h4 : 4 ≤ n) (h256 : n ≤ 256) (x : Int) (h0 : 33554432 ≤ x) (h1 : x < 33619968) (w : World) :
    Calls Tryz.prog 236 #[.int .i64 n, .int .u64 x] w (FindIs n x w) := by
  have hp := Lib.hid (show pmaFind n x = (2, 33554432, 65536, x - 33554432) by unfold pmaFind; repeat (first | rfl | rw [if_pos (by omega)] | rw [if_neg (by omega)]))
  go_enter Tryz.func236, Tryz.ntmps236
  go_wp2_with fail
  refine (pma_regions n h4 h256 _).mono ?_
  rintro e w1 ⟨rfl, rfl⟩
  go_wp2_with fail
  go_rounds 6
  all_goals (try go_region)
  all_goals (try go_wp2_with fail)
  all_goals exact bodyPost_ret (v := .tuple #[.agg #[.int .i64 (2), .int .u64 (33554432), .int .u64 (65536)], .int .u64 (x - 33554432)]) (by simp [results, Tryz.results236, go_sem]) rfl (FindIs.of _ _ _ _ hp rfl (by go_grown))


set_option maxRecDepth 100000 in
set_option maxHeartbeats 4000000 in
theorem pma_find_r3 (n : Nat) (h4 : 4 ≤ n) (h256 : n ≤ 256) (x : Int) (h0 : 201326592 ≤ x) (h1 : x < 205520896) (w : World) :
    Calls Tryz.prog 236 #[.int .i64 n, .int .u64 x] w (FindIs n x w) := by
  have hp := Lib.hid (show pmaFind n x = (3, 201326592, 4194304, x - 201326592) by unfold pmaFind; repeat (first | rfl | rw [if_pos (by omega)] | rw [if_neg (by omega)]))
  go_enter Tryz.func236, Tryz.ntmps236
  go_wp2_with fail
  refine (pma_regions n h4 h256 _).mono ?_
  rintro e w1 ⟨rfl, rfl⟩
  go_wp2_with fail
  go_rounds 6
  all_goals (try go_region)
  all_goals (try go_wp2_with fail)
  all_goals exact bodyPost_ret (v := .tuple #[.agg #[.int .i64 (3), .int .u64 (201326592), .int .u64 (4194304)], .int .u64 (x - 201326592)]) (by simp [results, Tryz.results236, go_sem]) rfl (FindIs.of _ _ _ _ hp rfl (by go_grown))


set_option maxRecDepth 100000 in
set_option maxHeartbeats 4000000 in
theorem pma_find_r4 (n : Nat) (h4 : 4 ≤ n) (h256 : n ≤ 256) (x : Int) (h0 : 268435456 ≤ x) (h1 : x < 268439552) (w : World) :
    Calls Tryz.prog 236 #[.int .i64 n, .int .u64 x] w (FindIs n x w) := by
  have hp := Lib.hid (show pmaFind n x = (4, 268435456, 4096, x - 268435456) by unfold pmaFind; repeat (first | rfl | rw [if_pos (by omega)] | rw [if_neg (by omega)]))
  go_enter Tryz.func236, Tryz.ntmps236
  go_wp2_with fail
  refine (pma_regions n h4 h256 _).mono ?_
  rintro e w1 ⟨rfl, rfl⟩
  go_wp2_with fail
  go_rounds 6
  all_goals (try go_region)
  all_goals (try go_wp2_with fail)
  all_goals exact bodyPost_ret (v := .tuple #[.agg #[.int .i64 (4), .int .u64 (268435456), .int .u64 (4096)], .int .u64 (x - 268435456)]) (by simp [results, Tryz.results236, go_sem]) rfl (FindIs.of _ _ _ _ hp rfl (by go_grown))


set_option maxRecDepth 100000 in
set_option maxHeartbeats 4000000 in
theorem pma_find_ram (n : Nat) (h4 : 4 ≤ n) (h256 : n ≤ 256) (x : Int) (h0 : 2147483648 ≤ x) (h1 : x < 2147483648 + n * 4096) (w : World) :
    Calls Tryz.prog 236 #[.int .i64 n, .int .u64 x] w (FindIs n x w) := by
  have hp := Lib.hid (show pmaFind n x = (5, 2147483648, (n : Int) * 4096, x - 2147483648) by unfold pmaFind; repeat (first | rfl | rw [if_pos (by omega)] | rw [if_neg (by omega)]))
  go_enter Tryz.func236, Tryz.ntmps236
  go_wp2_with fail
  refine (pma_regions n h4 h256 _).mono ?_
  rintro e w1 ⟨rfl, rfl⟩
  go_wp2_with fail
  go_rounds 6
  all_goals (try go_region)
  all_goals (try go_wp2_with fail)
  all_goals exact bodyPost_ret (v := .tuple #[.agg #[.int .i64 (5), .int .u64 (2147483648), .int .u64 ((n : Int) * 4096)], .int .u64 (x - 2147483648)]) (by simp [results, Tryz.results236, go_sem]) rfl (FindIs.of _ _ _ _ hp rfl (by go_grown))


set_option maxRecDepth 100000 in
set_option maxHeartbeats 4000000 in
theorem pma_find_g1 (n : Nat) (h4 : 4 ≤ n) (h256 : n ≤ 256) (x : Int) (h0 : 0 ≤ x) (h1 : x < 4096) (w : World) :
    Calls Tryz.prog 236 #[.int .i64 n, .int .u64 x] w (FindIs n x w) := by
  have hp := Lib.hid (show pmaFind n x = (0, 0, 0, 0) by unfold pmaFind; repeat (first | rfl | rw [if_pos (by omega)] | rw [if_neg (by omega)]))
  go_enter Tryz.func236, Tryz.ntmps236
  go_wp2_with fail
  refine (pma_regions n h4 h256 _).mono ?_
  rintro e w1 ⟨rfl, rfl⟩
  go_wp2_with fail
  go_rounds 6
  all_goals (try go_region)
  all_goals (try go_wp2_with fail)
  all_goals exact bodyPost_ret (v := .tuple #[.agg #[.int .i64 (0), .int .u64 (0), .int .u64 (0)], .int .u64 (0)]) (by simp [results, Tryz.results236, go_sem]) rfl (FindIs.of _ _ _ _ hp rfl (by go_grown))


set_option maxRecDepth 100000 in
set_option maxHeartbeats 4000000 in
theorem pma_find_g2 (n : Nat) (h4 : 4 ≤ n) (h256 : n ≤ 256) (x : Int) (h0 : 8192 ≤ x) (h1 : x < 33554432) (w : World) :
    Calls Tryz.prog 236 #[.int .i64 n, .int .u64 x] w (FindIs n x w) := by
  have hp := Lib.hid (show pmaFind n x = (0, 0, 0, 0) by unfold pmaFind; repeat (first | rfl | rw [if_pos (by omega)] | rw [if_neg (by omega)]))
  go_enter Tryz.func236, Tryz.ntmps236
  go_wp2_with fail
  refine (pma_regions n h4 h256 _).mono ?_
  rintro e w1 ⟨rfl, rfl⟩
  go_wp2_with fail
  go_rounds 6
  all_goals (try go_region)
  all_goals (try go_wp2_with fail)
  all_goals exact bodyPost_ret (v := .tuple #[.agg #[.int .i64 (0), .int .u64 (0), .int .u64 (0)], .int .u64 (0)]) (by simp [results, Tryz.results236, go_sem]) rfl (FindIs.of _ _ _ _ hp rfl (by go_grown))


set_option maxRecDepth 100000 in
set_option maxHeartbeats 4000000 in
theorem pma_find_g3 (n : Nat) (h4 : 4 ≤ n) (h256 : n ≤ 256) (x : Int) (h0 : 33619968 ≤ x) (h1 : x < 201326592) (w : World) :
    Calls Tryz.prog 236 #[.int .i64 n, .int .u64 x] w (FindIs n x w) := by
  have hp := Lib.hid (show pmaFind n x = (0, 0, 0, 0) by unfold pmaFind; repeat (first | rfl | rw [if_pos (by omega)] | rw [if_neg (by omega)]))
  go_enter Tryz.func236, Tryz.ntmps236
  go_wp2_with fail
  refine (pma_regions n h4 h256 _).mono ?_
  rintro e w1 ⟨rfl, rfl⟩
  go_wp2_with fail
  go_rounds 6
  all_goals (try go_region)
  all_goals (try go_wp2_with fail)
  all_goals exact bodyPost_ret (v := .tuple #[.agg #[.int .i64 (0), .int .u64 (0), .int .u64 (0)], .int .u64 (0)]) (by simp [results, Tryz.results236, go_sem]) rfl (FindIs.of _ _ _ _ hp rfl (by go_grown))


set_option maxRecDepth 100000 in
set_option maxHeartbeats 4000000 in
theorem pma_find_g4 (n : Nat) (h4 : 4 ≤ n) (h256 : n ≤ 256) (x : Int) (h0 : 205520896 ≤ x) (h1 : x < 268435456) (w : World) :
    Calls Tryz.prog 236 #[.int .i64 n, .int .u64 x] w (FindIs n x w) := by
  have hp := Lib.hid (show pmaFind n x = (0, 0, 0, 0) by unfold pmaFind; repeat (first | rfl | rw [if_pos (by omega)] | rw [if_neg (by omega)]))
  go_enter Tryz.func236, Tryz.ntmps236
  go_wp2_with fail
  refine (pma_regions n h4 h256 _).mono ?_
  rintro e w1 ⟨rfl, rfl⟩
  go_wp2_with fail
  go_rounds 6
  all_goals (try go_region)
  all_goals (try go_wp2_with fail)
  all_goals exact bodyPost_ret (v := .tuple #[.agg #[.int .i64 (0), .int .u64 (0), .int .u64 (0)], .int .u64 (0)]) (by simp [results, Tryz.results236, go_sem]) rfl (FindIs.of _ _ _ _ hp rfl (by go_grown))


set_option maxRecDepth 100000 in
set_option maxHeartbeats 4000000 in
theorem pma_find_g5 (n : Nat) (h4 : 4 ≤ n) (h256 : n ≤ 256) (x : Int) (h0 : 268439552 ≤ x) (h1 : x < 2147483648) (w : World) :
    Calls Tryz.prog 236 #[.int .i64 n, .int .u64 x] w (FindIs n x w) := by
  have hp := Lib.hid (show pmaFind n x = (0, 0, 0, 0) by unfold pmaFind; repeat (first | rfl | rw [if_pos (by omega)] | rw [if_neg (by omega)]))
  go_enter Tryz.func236, Tryz.ntmps236
  go_wp2_with fail
  refine (pma_regions n h4 h256 _).mono ?_
  rintro e w1 ⟨rfl, rfl⟩
  go_wp2_with fail
  go_rounds 6
  all_goals (try go_region)
  all_goals (try go_wp2_with fail)
  all_goals exact bodyPost_ret (v := .tuple #[.agg #[.int .i64 (0), .int .u64 (0), .int .u64 (0)], .int .u64 (0)]) (by simp [results, Tryz.results236, go_sem]) rfl (FindIs.of _ _ _ _ hp rfl (by go_grown))


set_option maxRecDepth 100000 in
set_option maxHeartbeats 4000000 in
theorem pma_find_g6 (n : Nat) (h4 : 4 ≤ n) (h256 : n ≤ 256) (x : Int) (h0 : 2147483648 + n * 4096 ≤ x) (h1 : x < 18446744073709551616) (w : World) :
    Calls Tryz.prog 236 #[.int .i64 n, .int .u64 x] w (FindIs n x w) := by
  have hp := Lib.hid (show pmaFind n x = (0, 0, 0, 0) by unfold pmaFind; repeat (first | rfl | rw [if_pos (by omega)] | rw [if_neg (by omega)]))
  go_enter Tryz.func236, Tryz.ntmps236
  go_wp2_with fail
  refine (pma_regions n h4 h256 _).mono ?_
  rintro e w1 ⟨rfl, rfl⟩
  go_wp2_with fail
  go_rounds 6
  all_goals (try go_region)
  all_goals (try go_wp2_with fail)
  all_goals exact bodyPost_ret (v := .tuple #[.agg #[.int .i64 (0), .int .u64 (0), .int .u64 (0)], .int .u64 (0)]) (by simp [results, Tryz.results236, go_sem]) rfl (FindIs.of _ _ _ _ hp rfl (by go_grown))

theorem pma_find (n : Nat) (h4 : 4 ≤ n) (h256 : n ≤ 256) (x : Int) (h0 : 0 ≤ x) (h1 : x < 18446744073709551616) (w : World) : Calls Tryz.prog 236 #[.int .i64 n, .int .u64 x] w (FindIs n x w) := by
  by_cases a1 : x < 4096; exact pma_find_g1 n h4 h256 x h0 a1 w
  by_cases a2 : x < 8192; exact pma_find_r1 n h4 h256 x (by omega) a2 w
  by_cases a3 : x < 33554432; exact pma_find_g2 n h4 h256 x (by omega) a3 w
  by_cases a4 : x < 33619968; exact pma_find_r2 n h4 h256 x (by omega) a4 w
  by_cases a5 : x < 201326592; exact pma_find_g3 n h4 h256 x (by omega) a5 w
  by_cases a6 : x < 205520896; exact pma_find_r3 n h4 h256 x (by omega) a6 w
  by_cases a7 : x < 268435456; exact pma_find_g4 n h4 h256 x (by omega) a7 w
  by_cases a8 : x < 268439552; exact pma_find_r4 n h4 h256 x (by omega) a8 w
  by_cases a9 : x < 2147483648; exact pma_find_g5 n h4 h256 x (by omega) a9 w
  by_cases b1 : x < 2147483648 + n * 4096; exact pma_find_ram n h4 h256 x (by omega) b1 w
  exact pma_find_g6 n h4 h256 x (by omega) h1 w
end Go.Proofs.YtkogjjeoihnjpaaGreat
end
section
set_option linter.unusedVariables false
set_option linter.unusedSimpArgs false
namespace Go.Proofs.YtkogjjeoihnjpaaGreat
open Go.RowKit
set_option maxRecDepth 100000 in
set_option maxHeartbeats 1000000 in
theorem pma_region (n : Nat) (h4 : 4 ≤ n) (h256 : n ≤ 256) (x : Int) (h0 : 0 ≤ x) (h1 : x < 18446744073709551616) (w : World) :
    Calls Tryz.prog 149 #[.int .i64 n, .int .u64 x] w fun e w' => e = .returned (.int .i64 (pmaFind n x).1) ∧ Below w.heap.size w w' := by
  have F := Lib.hid (pma_find n h4 h256 x h0 h1)
  clear h0 h1
  generalize hk : pmaFind n x = K at *
  have HK := Lib.hid hk
  clear hk
  go_enter Tryz.func149, Tryz.ntmps149
  go_wp2_with fail
  refine (F.out _).mono ?_
  rintro e w1 ⟨rfl, hb⟩
  rw [HK.out]
  have HB := Lib.hid hb
  clear hb
  go_wp2_with fail
  go_ret
  exact ⟨rfl, by have := HB.out; have hs := HB.out.size; go_grown⟩
set_option maxRecDepth 100000 in
set_option maxHeartbeats 1000000 in
theorem pma_offset (n : Nat) (h4 : 4 ≤ n) (h256 : n ≤ 256) (x : Int) (h0 : 0 ≤ x) (h1 : x < 18446744073709551616) (w : World) :
    Calls Tryz.prog 152 #[.int .i64 n, .int .u64 x] w fun e w' => e = .returned (.int .u64 (pmaFind n x).2.2.2) ∧ Below w.heap.size w w' := by
  have F := Lib.hid (pma_find n h4 h256 x h0 h1)
  clear h0 h1
  generalize hk : pmaFind n x = K at *
  have HK := Lib.hid hk
  clear hk
  go_enter Tryz.func152, Tryz.ntmps152
  go_wp2_with fail
  refine (F.out _).mono ?_
  rintro e w1 ⟨rfl, hb⟩
  rw [HK.out]
  have HB := Lib.hid hb
  clear hb
  go_wp2_with fail
  go_ret
  exact ⟨rfl, by have := HB.out; have hs := HB.out.size; go_grown⟩
/-- an address of memory -/
def isRam (n : Nat) (x : Int) : Bool := decide (2147483648 ≤ x ∧ x < 2147483648 + n * 4096)
theorem isRam_find (n : Nat) (x : Int) : decide ((pmaFind n x).1 = 5) = isRam n x := by
  unfold pmaFind isRam
  repeat' split
  all_goals simp
  all_goals omega
theorem isRam_off (n : Nat) (x : Int) (h : isRam n x = true) : (pmaFind n x).2.2.2 = x - 2147483648 := by
  unfold isRam at h
  simp only [decide_eq_true_eq] at h
  unfold pmaFind
  repeat (first | rfl | rw [if_pos (by omega)] | rw [if_neg (by omega)])
set_option maxRecDepth 100000 in
set_option maxHeartbeats 1000000 in
theorem pma_cached (n : Nat) (h4 : 4 ≤ n) (h256 : n ≤ 256) (x : Int) (h0 : 0 ≤ x) (h1 : x < 18446744073709551616) (w : World) :
    Calls Tryz.prog 228 #[.int .i64 n, .int .u64 x] w fun e w' => e = .returned (.bool (isRam n x)) ∧ Below w.heap.size w w' := by
  have F := Lib.hid (pma_region n h4 h256 x h0 h1)
  clear h0 h1
  have HK := Lib.hid (isRam_find n x)
  generalize (pmaFind n x).1 = K at *
  generalize isRam n x = R at *
  go_enter Tryz.func228, Tryz.ntmps228
  go_wp2_with fail
  refine (F.out _).mono ?_
  rintro e w1 ⟨rfl, hb⟩
  have HB := Lib.hid hb
  clear hb
  go_wp2_with fail
  go_ret
  exact ⟨ret_bool (by rw [← HK.out]; first | rfl | (simp; done) | (by_cases h : K = 5 <;> simp [h])), HB.out⟩
end Go.Proofs.YtkogjjeoihnjpaaGreat
end
section
set_option linter.unusedVariables false
set_option linter.unusedSimpArgs false
namespace Go.Proofs.YtkogjjeoihnjpaaGreat
open Go.RowKit

/-! ### worlds of which only some blocks have turned -/
/-- what was there is as it was, but for the blocks of S -/
structure Turned (S : Nat → Prop) (w w' : World) : Prop where
  os : w'.os = w.os
  tape : w'.tape = w.tape
  output : w'.output = w.output
  size : w.heap.size ≤ w'.heap.size
  block : ∀ g, g < w.heap.size → ¬ S g → w'.heap[g]? = w.heap[g]?
theorem Turned.refl (S : Nat → Prop) (w : World) : Turned S w w := ⟨rfl, rfl, rfl, Nat.le_refl _, fun _ _ _ => rfl⟩
theorem Turned.trans {S S' : Nat → Prop} {a b c : World} (h : Turned S a b) (k : Turned S' b c) (hs : ∀ g, S' g → S g ∨ a.heap.size ≤ g) : Turned S a c :=
  ⟨k.os.trans h.os, k.tape.trans h.tape, k.output.trans h.output, Nat.le_trans h.size k.size, fun g hg hn => (k.block g (Nat.lt_of_lt_of_le hg h.size) (fun e => by
    rcases hs g e with e | e
    · exact hn e
    · omega)).trans (h.block g hg hn)⟩
theorem Turned.mono {S S' : Nat → Prop} {a b : World} (h : Turned S a b) (hs : ∀ g, S g → S' g) : Turned S' a b := ⟨h.os, h.tape, h.output, h.size, fun g hg hn => h.block g hg (fun e => hn (hs g e))⟩
theorem Turned.below {S : Nat → Prop} {a b : World} (h : Turned S a b) {B : Nat} (hB : B ≤ a.heap.size) (hs : ∀ g, S g → B ≤ g) : Below B a b :=
  ⟨h.os, h.tape, h.output, h.size, fun g hg => h.block g (by omega) (fun e => by have := hs g e; omega)⟩
theorem Turned.of_below {a b : World} (h : Below a.heap.size a b) (S : Nat → Prop) : Turned S a b := ⟨h.os, h.tape, h.output, h.size, fun g hg _ => h.block g hg⟩
theorem Turned.of_grown {a b : World} {g : Nat} (h : a.grownBy b (some g)) : Turned (· = g) a b := ⟨h.os, h.tape, h.output, h.size, fun k hk hn => h.block k hk (fun e => hn (Option.some.inj e))⟩
theorem Turned.drew {S : Nat → Prop} {a b : World} (h : Turned S a b) : Turned S a b.drew := ⟨h.os, h.tape, h.output, h.size, h.block⟩
theorem Turned.alloc {S : Nat → Prop} {a b : World} (h : Turned S a b) (o : Obj) : Turned S a (b.alloc o) := h.trans (S' := fun _ => False) (.of_below ((Below.refl _ _).alloc (Nat.le_refl _) o) _) (fun _ e => e.elim)
theorem Turned.keep {S : Nat → Prop} {a b : World} (h : Turned S a b) {g : Nat} {o : Obj} (hn : ¬ S g) (ho : a.heap[g]? = some o) : b.heap[g]? = some o := (h.block g (blk_lt ho) hn).trans ho
theorem Turned.set {S : Nat → Prop} {a b : World} (h : Turned S a b) {g : Nat} (hg : S g ∨ a.heap.size ≤ g) (o : Nat) (v : Value) : Turned S a (b.setCell ⟨g, o, none⟩ v) :=
  h.trans (S' := (· = g)) ⟨rfl, rfl, rfl, by simp [World.setCell], fun k _ hk => Below.heap_setCell _ _ _ _ (by simpa using hk)⟩ (by rintro _ rfl; exact hg)

/-! ### the page's map -/
/-- a page's place in the map: its block's number, -1 where there is none -/
def pgR (v : Value) : Option (DataW Unit × List MemPlace) :=
  match v with
  | .pointer (some ⟨g, 0, none⟩) => some (.lit (.int .i64 g), [])
  | .pointer none => some (.lit (.int .i64 (-1)), [])
  | _ => none
def pgV : Option Nat → Value | none => .pointer none | some g => .pointer (some ⟨g, 0, none⟩)
def pgI : Option Nat → Int | none => -1 | some g => g
theorem pgR_V (p : Option Nat) : pgR (pgV p) = some (.lit (.int .i64 (pgI p)), []) := by cases p <;> rfl
theorem pgR_inj {v : Value} {i : Int} {ps : List MemPlace} (h : pgR v = some (.lit (.int .i64 i), ps)) : ∃ p, v = pgV p ∧ i = pgI p := by
  unfold pgR at h
  split at h
  · cases h; exact ⟨some _, rfl, rfl⟩
  · cases h; exact ⟨none, rfl, rfl⟩
  · cases h
theorem pgI_inj {p q : Option Nat} (h : pgI p = pgI q) : p = q := by
  cases p <;> cases q <;> simp [pgI] at h ⊢ <;> omega
theorem pgI_nonneg (p : Option Nat) : (-1 : Int) ≤ pgI p := by cases p <;> simp [pgI] <;> omega
theorem keyI : Go.Maps.Keyed Tryz.prog 3 := Go.Maps.int_keyed Tryz.underlying3
def keyL (k : Nat) : Lit := .int .i64 k
theorem keyL_inj {k k' : Nat} (h : keyL k = keyL k') : k = k' := by unfold keyL at h; injection h with _ h; omega
theorem keyOf_nat {k : Nat} (h : k < 9223372036854775808) : keyOf Tryz.prog 3 (.int .i64 k) = some (keyL k) :=
  Go.Maps.keyOf_int_mk Tryz.underlying3 (by simp [Lit.wf, IntKind.min, IntKind.max, IntKind.signed, IntKind.bits]; omega)
/-- how many of the pages below n are there -/
def pgCount (pg : Nat → Option Nat) : Nat → Nat
  | 0 => 0
  | n + 1 => pgCount pg n + if (pg n).isSome then 1 else 0
theorem pgCount_le (pg : Nat → Option Nat) (n : Nat) : pgCount pg n ≤ n := by
  induction n with
  | zero => simp [pgCount]
  | succ n ih => unfold pgCount; split <;> omega
def pgSet (pg : Nat → Option Nat) (k g : Nat) : Nat → Option Nat := fun j => if j = k then some g else pg j
theorem pgCount_set_ge (pg : Nat → Option Nat) (k g n : Nat) (h : n ≤ k) : pgCount (pgSet pg k g) n = pgCount pg n := by
  induction n with
  | zero => rfl
  | succ n ih =>
    unfold pgCount
    rw [ih (by omega)]
    have : pgSet pg k g n = pg n := by unfold pgSet; rw [if_neg (by omega)]
    rw [this]
theorem pgCount_set (pg : Nat → Option Nat) (k g n : Nat) (h : k < n) (hn : pg k = none) : pgCount (pgSet pg k g) n = pgCount pg n + 1 := by
  induction n with
  | zero => omega
  | succ n ih =>
    unfold pgCount
    by_cases hk : k = n
    · subst hk
      rw [pgCount_set_ge _ _ _ _ (Nat.le_refl _), hn]
      simp [pgSet]
    · have : pgSet pg k g n = pg n := by unfold pgSet; rw [if_neg (by omega)]
      rw [ih (by omega), this]
      omega
/-- block m is the map of these pages -/
structure PgMap (w : World) (m : Nat) (pg : Nat → Option Nat) (D : DataW Unit) : Prop where
  own : w.ownsMap Tryz.prog 3 pgR m (pgCount pg 256) D
  isMap : Go.Maps.IsMap D
  get : ∀ k, D.atKey (keyL k) (.lit (.int .i64 (-1))) = .lit (.int .i64 (pgI (pg k)))
  has : ∀ kl, Go.Maps.has D kl = true → ∃ k, kl = keyL k ∧ k < 256 ∧ (pg k).isSome = true
theorem PgMap.new (w : World) : PgMap (w.alloc (.map #[] 0)) w.heap.size (fun _ => none) (.map []) := by
  refine ⟨(World.ownsMap_made w Tryz.prog 3 pgR).mono (Nat.zero_le _), Go.Maps.isMap_empty, fun k => rfl, fun kl h => ?_⟩
  cases h
theorem PgMap.kept {w w' : World} {m : Nat} {pg : Nat → Option Nat} {D : DataW Unit} (h : PgMap w m pg D) (hb : w'.heap[m]? = w.heap[m]?) : PgMap w' m pg D := by
  refine ⟨?_, h.isMap, h.get, h.has⟩
  obtain ⟨es, clock, h1, h2⟩ := h.own
  exact ⟨es, clock, hb.trans h1, h2⟩
theorem pg_zero (w : World) : (zeroValue 137).run Tryz.prog w = .ok (.pointer none) w := by kernel_rfl
theorem PgMap.lookup {w : World} {m : Nat} {pg : Nat → Option Nat} {D : DataW Unit} (h : PgMap w m pg D) {k : Nat} (hk : k < 256) :
    (Instr.lookup 134 (.map (some m)) (.int .i64 k) false).run Tryz.prog w = .ok (pgV (pg k)) w := by
  obtain ⟨v, ps, hrun, hv⟩ := h.own.lookup keyI Tryz.underlying134 (pg_zero w) (pgR_V none) (keyOf_nat (k := k) (by omega))
  have hg : D.atKey (keyL k) (.lit (.int .i64 (pgI none))) = .lit (.int .i64 (pgI (pg k))) := h.get k
  rw [hg] at hv
  obtain ⟨p, rfl, hp⟩ := pgR_inj hv
  rw [pgI_inj hp]
  exact hrun
theorem keyL_key (k : Nat) : Go.WideAt.IsKeyLit (keyL k) := trivial
/-- what the map is with page k put in -/
theorem PgMap.put {w w' : World} {m : Nat} {pg : Nat → Option Nat} {D : DataW Unit} (h : PgMap w m pg D) {k : Nat} (hk : k < 256) (hn : pg k = none) (g : Nat)
    (hown : w'.ownsMap Tryz.prog 3 pgR m (pgCount pg 256 + 1) (D.put (keyL k) (.lit (.int .i64 (pgI (some g)))))) : PgMap w' m (pgSet pg k g) (D.put (keyL k) (.lit (.int .i64 (pgI (some g))))) := by
  refine ⟨by rw [pgCount_set pg k g 256 hk hn]; exact hown, h.isMap.put _ _, fun j => ?_, fun kl hkl => ?_⟩
  · by_cases hj : j = k
    · subst hj
      rw [Go.Maps.atKey_put_same h.isMap (keyL_key j)]
      simp [pgSet]
    · rw [Go.Maps.atKey_put_other (fun e => hj (keyL_inj e)), h.get j]
      simp [pgSet, hj]
  · by_cases hj : kl = keyL k
    · exact ⟨k, hj, hk, by simp [pgSet]⟩
    · rw [Go.Maps.has_put_other hj] at hkl
      obtain ⟨j, rfl, h1, h2⟩ := h.has kl hkl
      exact ⟨j, rfl, h1, by unfold pgSet; split <;> simp_all⟩

/-! ### the bytes -/
set_option maxRecDepth 100000
def pageArr (f : Nat → Nat) : Array Value := ((List.range 4096).map fun j => Value.int .u8 (f j)).toArray
theorem pageArr_get (f : Nat → Nat) (j : Nat) (h : j < 4096) : (pageArr f)[j]? = some (.int .u8 (f j)) := by
  unfold pageArr
  simp [h]
theorem pageArr_size (f : Nat → Nat) : (pageArr f).size = 4096 := by simp [pageArr]
theorem pageArr_congr {f g : Nat → Nat} (h : ∀ j, j < 4096 → f j = g j) : pageArr f = pageArr g := by
  unfold pageArr
  congr 1
  apply List.map_congr_left
  intro j hj
  rw [h j (List.mem_range.1 hj)]
def updB (ct : Nat → Nat) (i v : Nat) : Nat → Nat := fun j => if j = i then v else ct j
theorem pageArr_set (f : Nat → Nat) (j v : Nat) (h : j < 4096) : (pageArr f).setIfInBounds j (.int .u8 v) = pageArr (updB f j v) := by
  apply Array.ext_getElem?
  intro i
  rw [Array.getElem?_setIfInBounds]
  by_cases hi : i < 4096
  · rw [pageArr_get (updB f j v) _ hi]
    by_cases e : j = i
    · subst e
      rw [if_pos rfl, if_pos (by rw [pageArr_size]; exact hi)]
      simp [updB]
    · rw [if_neg e, pageArr_get _ _ hi]
      have : updB f j v i = f i := by unfold updB; rw [if_neg (by omega)]
      rw [this]
  · have h1 : (pageArr f)[i]? = none := by rw [Array.getElem?_eq_none]; rw [pageArr_size]; omega
    have h2 : (pageArr (updB f j v))[i]? = none := by rw [Array.getElem?_eq_none]; rw [pageArr_size]; omega
    rw [h1, h2]
    split
    · rw [if_neg (by rw [pageArr_size]; omega)]
    · rfl
theorem pageArr_zero : madeCells #[(.int .u8 0)] 4096 = pageArr fun _ => 0 := by
  unfold madeCells pageArr
  apply Array.ext'
  simp [Array.toList_range]
  intro a ha
  simp [Nat.mod_one]

/-- block b is a memory of n pages; m, pg: its map and its pages; ct: what its bytes are -/
structure RamIs (w : World) (b m n : Nat) (pg : Nat → Option Nat) (ct : Nat → Nat) : Prop where
  at_ : w.heap[b]? = some (.cells #[.int .i64 n, .map (some m)] 136 (0, 0))
  lo : 4 ≤ n
  hi : n ≤ 256
  map : ∃ D, PgMap w m pg D
  page : ∀ k g, pg k = some g → w.heap[g]? = some (.cells (pageArr fun j => ct (4096 * k + j)) 139 (0, 0))
  zero : ∀ k, pg k = none → ∀ j, j < 4096 → ct (4096 * k + j) = 0
  inj : ∀ k k' g, pg k = some g → pg k' = some g → k = k'
  bd : ∀ i, ct i < 256
  small : ∀ k, (pg k).isSome = true → k < 256
/-- the blocks that a memory may turn -/
def RamOwn (m : Nat) (pg : Nat → Option Nat) (g : Nat) : Prop := g = m ∨ ∃ k, pg k = some g
/-- the same, the map and pages untold: S is the blocks that it may turn -/
def RamAt (w : World) (b n : Nat) (ct : Nat → Nat) (S : Nat → Prop) : Prop := ∃ m pg, RamIs w b m n pg ct ∧ S = RamOwn m pg
theorem RamIs.map_lt {w : World} {b m n : Nat} {pg : Nat → Option Nat} {ct : Nat → Nat} (h : RamIs w b m n pg ct) : m < w.heap.size := by
  obtain ⟨D, hD⟩ := h.map
  exact hD.own.lt
theorem RamIs.map_is {w : World} {b m n : Nat} {pg : Nat → Option Nat} {ct : Nat → Nat} (h : RamIs w b m n pg ct) : ∃ es c, w.heap[m]? = some (.map es c) := by
  obtain ⟨D, hD⟩ := h.map
  obtain ⟨es, c, h1, _⟩ := hD.own
  exact ⟨es, c, h1⟩
/-- it lies in blocks that are there -/
theorem RamAt.lt {w : World} {b n : Nat} {ct : Nat → Nat} {S : Nat → Prop} (h : RamAt w b n ct S) {g : Nat} (hg : S g) : g < w.heap.size := by
  obtain ⟨m, pg, h, rfl⟩ := h
  rcases hg with rfl | ⟨k, hk⟩
  · exact h.map_lt
  · exact blk_lt (h.page k g hk)
theorem RamAt.self {w : World} {b n : Nat} {ct : Nat → Nat} {S : Nat → Prop} (h : RamAt w b n ct S) : ¬ S b ∧ b < w.heap.size := by
  obtain ⟨m, pg, h, rfl⟩ := h
  refine ⟨?_, blk_lt h.at_⟩
  rintro (rfl | ⟨k, hk⟩)
  · obtain ⟨es, c, hm⟩ := h.map_is
    rw [h.at_] at hm
    cases hm
  · have h1 := h.page k b hk
    rw [h.at_] at h1
    injection h1 with h1
    injection h1 with h1
    have := congrArg Array.size h1
    rw [pageArr_size] at this
    simp at this
/-- what turns none of its blocks leaves it -/
theorem RamIs.keep {w w' : World} {b m n : Nat} {pg : Nat → Option Nat} {ct : Nat → Nat} (h : RamIs w b m n pg ct) (hb : ∀ g, g = b ∨ RamOwn m pg g → w'.heap[g]? = w.heap[g]?) : RamIs w' b m n pg ct := by
  refine ⟨(hb b (.inl rfl)).trans h.at_, h.lo, h.hi, ?_, fun k g hk => (hb g (.inr (.inr ⟨k, hk⟩))).trans (h.page k g hk), h.zero, h.inj, h.bd, h.small⟩
  obtain ⟨D, hD⟩ := h.map
  exact ⟨D, hD.kept (hb m (.inr (.inl rfl)))⟩
theorem RamAt.turned {w w' : World} {b n : Nat} {ct : Nat → Nat} {S T : Nat → Prop} (h : RamAt w b n ct S) (ht : Turned T w w') (hb : ¬ T b) (hd : ∀ g, S g → ¬ T g) : RamAt w' b n ct S := by
  have hlt := fun g (hg : S g) => h.lt hg
  have hself := h.self
  obtain ⟨m, pg, h, rfl⟩ := h
  refine ⟨m, pg, h.keep ?_, rfl⟩
  rintro g (rfl | hg)
  · exact ht.block _ hself.2 hb
  · exact ht.block _ (hlt g hg) (hd g hg)
theorem RamAt.below {w w' : World} {b n : Nat} {ct : Nat → Nat} {S : Nat → Prop} (h : RamAt w b n ct S) (hb : Below w.heap.size w w') : RamAt w' b n ct S :=
  h.turned (T := fun _ => False) (.of_below hb _) (fun e => e) (fun _ _ e => e)
theorem RamAt.ext {w : World} {b n : Nat} {ct ct' : Nat → Nat} {S : Nat → Prop} (h : RamAt w b n ct S) (he : ∀ i, ct i = ct' i) : RamAt w b n ct' S := by
  obtain rfl : ct = ct' := funext he
  exact h
end Go.Proofs.YtkogjjeoihnjpaaGreat
end
section
set_option linter.unusedVariables false
set_option linter.unusedSimpArgs false
namespace Go.Proofs.YtkogjjeoihnjpaaGreat
open Go.RowKit
set_option maxRecDepth 100000 in
set_option maxHeartbeats 1000000 in
theorem ram_get {w : World} {b m n : Nat} {pg : Nat → Option Nat} {ct : Nat → Nat} (h : RamIs w b m n pg ct) (x : Int) (x0 : 0 ≤ x) (x1 : x < 1048576) :
    Calls Tryz.prog 137 #[.pointer (some ⟨b, 0, none⟩), .int .i64 x] w fun e w' => e = .returned (.int .u8 (ct x.toNat)) ∧ w = w' := by
  obtain ⟨k, hk⟩ := Int.eq_ofNat_of_zero_le (show 0 ≤ x / 4096 by omega)
  obtain ⟨j, hj⟩ := Int.eq_ofNat_of_zero_le (show 0 ≤ x % 4096 by omega)
  have hk2 : (k : Int) < 256 := by omega
  have hj2 : (j : Int) < 4096 := by omega
  have hx : Hid (x.toNat = 4096 * k + j) := by show _ = _; omega
  obtain ⟨D, hD⟩ := h.map
  have hl := hD.lookup (k := k) (by omega)
  have c0 : w.cell? ⟨b, 1, none⟩ = some (.map (some m)) := blk_cell h.at_ 1
  have HK := Lib.hid hk; have HJ := Lib.hid hj
  rcases hp : pg k with _ | g
  · have hz : Hid (ct x.toNat = 0) := by show _ = _; rw [hx.out]; exact h.zero k hp j (by omega)
    rw [hp] at hl
    simp only [pgV] at hl
    clear h hD hp
    go_enter Tryz.func137, Tryz.ntmps137
    go_wp2
    go_ret
    exact ⟨ret_int (by rw [hz.out]; rfl), rfl⟩
  · have hc : w.cell? ⟨g, j, none⟩ = some (.int .u8 (ct (4096 * k + j))) := (blk_cell (h.page k g hp) j).trans (pageArr_get _ _ (by omega))
    rw [hp] at hl
    simp only [pgV] at hl
    clear h hD hp
    go_enter Tryz.func137, Tryz.ntmps137
    go_wp2
    go_ret
    exact ⟨ret_int (by rw [hx.out]), rfl⟩
/-- the memory with other bytes: in its own blocks and in new ones -/
def RamTo (w w' : World) (b n : Nat) (ct : Nat → Nat) (S : Nat → Prop) : Prop := ∃ S', RamAt w' b n ct S' ∧ Turned S w w' ∧ ∀ g, S' g → S g ∨ w.heap.size ≤ g
theorem set_old {w : World} {b m n : Nat} {pg : Nat → Option Nat} {ct : Nat → Nat} (h : RamIs w b m n pg ct) {k j g : Nat} (hp : pg k = some g) (hj : j < 4096) (v : Nat) (hv : v < 256) :
    RamTo w (w.setCell ⟨g, j, none⟩ (.int .u8 v)) b n (updB ct (4096 * k + j) v) (RamOwn m pg) := by
  have hs := RamAt.self ⟨m, pg, h, rfl⟩
  have hgb : g ≠ b := by rintro rfl; exact hs.1 (.inr ⟨k, hp⟩)
  have hgm : g ≠ m := by
    rintro rfl
    obtain ⟨es, c, hm⟩ := h.map_is
    rw [h.page k g hp] at hm
    cases hm
  refine ⟨RamOwn m pg, ⟨m, pg, ⟨(blk_set_ne _ _ hgb).trans h.at_, h.lo, h.hi, ?_, fun k' g' hk' => ?_, fun k' hk' j' hj' => ?_, h.inj, fun i => ?_, h.small⟩, rfl⟩, ?_, fun _ => .inl⟩
  · obtain ⟨D, hD⟩ := h.map
    exact ⟨D, hD.kept (blk_set_ne _ _ hgm)⟩
  · by_cases e : g' = g
    · subst e
      obtain rfl := h.inj k k' g' hp hk'
      rw [blk_set (h.page k g' hp), pageArr_set _ _ _ hj]
      refine congrArg (fun c => some (Obj.cells c _ _)) (pageArr_congr fun i hi => ?_)
      unfold updB
      by_cases hij : i = j
      · subst hij; simp
      · rw [if_neg hij, if_neg (by omega)]
    · rw [blk_set_ne _ _ (fun h => e h.symm), h.page k' g' hk']
      refine congrArg (fun c => some (Obj.cells c _ _)) (pageArr_congr fun i hi => ?_)
      unfold updB
      rw [if_neg]
      intro hx
      have : k' = k := by omega
      subst this
      rw [hp] at hk'
      exact e (Option.some.inj hk').symm
  · unfold updB
    rw [if_neg]
    · exact h.zero k' hk' j' hj'
    · intro hx
      have : k' = k := by omega
      subst this
      rw [hp] at hk'
      cases hk'
  · unfold updB
    split
    · exact hv
    · exact h.bd i
  · exact (Turned.refl _ w).set (.inl (.inr ⟨k, hp⟩)) _ _
theorem set_new {w : World} {b m n : Nat} {pg : Nat → Option Nat} {ct : Nat → Nat} (h : RamIs w b m n pg ct) {k j : Nat} (hp : pg k = none) (hk : k < 256) (hj : j < 4096) (v : Nat) (hv : v < 256) {o : Obj} (ho : o = .cells (pageArr fun _ => 0) 139)
    {w1 : World} {D : DataW Unit} (hm : PgMap w1 m (pgSet pg k w.heap.size) D) (hg : (w.alloc o).grownBy w1 (some m)) :
    RamTo w (w1.setCell ⟨w.heap.size, j, none⟩ (.int .u8 v)) b n (updB ct (4096 * k + j) v) (RamOwn m pg) := by
  subst ho
  have hs := RamAt.self ⟨m, pg, h, rfl⟩
  have hlt : ∀ g, RamOwn m pg g → g < w.heap.size := fun g hg => RamAt.lt ⟨m, pg, h, rfl⟩ hg
  have hmg : m < w.heap.size := hlt m (.inl rfl)
  have hbm : b ≠ m := by rintro rfl; exact hs.1 (.inl rfl)
  have hold : ∀ g, g < w.heap.size → g ≠ m → (w1.setCell ⟨w.heap.size, j, none⟩ (.int .u8 v)).heap[g]? = w.heap[g]? := fun g hg1 hg2 => by
    rw [blk_set_ne _ _ (by simp; omega), hg.block g (by simp; omega) (by simpa using hg2), blk_alloc_old _ _ _ hg1]
  have hnew : w1.heap[w.heap.size]? = some (.cells (pageArr fun _ => 0) 139 (0, 0)) := by
    rw [hg.block w.heap.size (by simp) (by simp; omega), blk_alloc]
  refine ⟨RamOwn m (pgSet pg k w.heap.size), ⟨m, pgSet pg k w.heap.size, ⟨(hold b hs.2 hbm).trans h.at_, h.lo, h.hi, ⟨D, hm.kept (blk_set_ne _ _ (by simp; omega))⟩, fun k' g' hk' => ?_, fun k' hk' j' hj' => ?_, fun k1 k2 g' h1 h2 => ?_, fun i => ?_, fun k' hk' => ?_⟩, rfl⟩, ?_, ?_⟩
  · unfold pgSet at hk'
    by_cases e : k' = k
    · subst e
      rw [if_pos rfl] at hk'
      obtain rfl := Option.some.inj hk'
      rw [blk_set hnew, pageArr_set _ _ _ hj]
      refine congrArg (fun c => some (Obj.cells c _ _)) (pageArr_congr fun i hi => ?_)
      unfold updB
      by_cases hij : i = j
      · subst hij; simp
      · rw [if_neg hij, if_neg (by omega), h.zero k' hp i hi]
    · rw [if_neg e] at hk'
      have hgm : g' ≠ m := by
        rintro rfl
        obtain ⟨es, c, hm⟩ := h.map_is
        rw [h.page k' g' hk'] at hm
        cases hm
      rw [hold g' (hlt g' (.inr ⟨k', hk'⟩)) hgm, h.page k' g' hk']
      refine congrArg (fun c => some (Obj.cells c _ _)) (pageArr_congr fun i hi => ?_)
      unfold updB
      rw [if_neg (by omega)]
  · unfold pgSet at hk'
    by_cases e : k' = k
    · rw [if_pos e] at hk'; cases hk'
    · rw [if_neg e] at hk'
      unfold updB
      rw [if_neg (by omega)]
      exact h.zero k' hk' j' hj'
  · unfold pgSet at h1 h2
    by_cases e1 : k1 = k <;> by_cases e2 : k2 = k
    · rw [e1, e2]
    · rw [if_pos e1] at h1; rw [if_neg e2] at h2
      have := hlt g' (.inr ⟨k2, h2⟩)
      have := Option.some.inj h1
      omega
    · rw [if_neg e1] at h1; rw [if_pos e2] at h2
      have := hlt g' (.inr ⟨k1, h1⟩)
      have := Option.some.inj h2
      omega
    · rw [if_neg e1] at h1; rw [if_neg e2] at h2
      exact h.inj k1 k2 g' h1 h2
  · unfold updB
    split
    · exact hv
    · exact h.bd i
  · unfold pgSet at hk'
    by_cases e : k' = k
    · rw [e]; exact hk
    · rw [if_neg e] at hk'; exact h.small k' hk'
  · exact (((Turned.refl (RamOwn m pg) w).alloc (.cells (pageArr fun _ => 0) 139)).trans (Turned.of_grown hg) (by rintro _ rfl; exact .inl (.inl rfl))).set (.inr (Nat.le_refl _)) _ _
  · rintro g (rfl | ⟨k', hk'⟩)
    · exact .inl (.inl rfl)
    · unfold pgSet at hk'
      by_cases e : k' = k
      · rw [if_pos e] at hk'
        right
        have := Option.some.inj hk'
        omega
      · rw [if_neg e] at hk'
        exact .inl (.inr ⟨k', hk'⟩)
theorem zero_page : Tryz.zeroCells139 = pageArr fun _ => 0 := by kernel_rfl
theorem new_page {w w1 : World} {m j : Nat} (hg : (w.alloc (.cells Tryz.zeroCells139 139)).grownBy w1 (some m)) (hj : j < 4096) (hm : m < w.heap.size) : w1.cell? ⟨w.heap.size, j, none⟩ = some (.int .u8 0) ∧ w1.frozen? ⟨w.heap.size, j, none⟩ = false := by
  have hnew : w1.heap[w.heap.size]? = some (.cells (pageArr fun _ => 0) 139 (0, 0)) := by
    rw [hg.block w.heap.size (by simp) (by simp; omega), blk_alloc, zero_page]
  exact ⟨(blk_cell hnew j).trans (pageArr_get _ _ hj), blk_frozen hnew j⟩
set_option maxRecDepth 100000 in
set_option maxHeartbeats 1000000 in
theorem ram_set {w : World} {b m n : Nat} {pg : Nat → Option Nat} {ct : Nat → Nat} (h : RamIs w b m n pg ct) (x : Int) (x0 : 0 ≤ x) (x1 : x < 1048576) (v : Nat) (hv : v < 256) :
    Calls Tryz.prog 252 #[.pointer (some ⟨b, 0, none⟩), .int .i64 x, .int .u8 v] w fun e w' => e = .returned (.tuple #[]) ∧ RamTo w w' b n (updB ct x.toNat v) (RamOwn m pg) := by
  obtain ⟨k, hk⟩ := Int.eq_ofNat_of_zero_le (show 0 ≤ x / 4096 by omega)
  obtain ⟨j, hj⟩ := Int.eq_ofNat_of_zero_le (show 0 ≤ x % 4096 by omega)
  have hk2 : (k : Int) < 256 := by omega
  have hj2 : (j : Int) < 4096 := by omega
  have hx : Hid (x.toNat = 4096 * k + j) := by show _ = _; omega
  obtain ⟨D, hD⟩ := h.map
  have hl := hD.lookup (k := k) (by omega)
  have c0 : w.cell? ⟨b, 1, none⟩ = some (.map (some m)) := blk_cell h.at_ 1
  have HV := Lib.hid hv
  clear hv
  rcases hp : pg k with _ | g
  · rw [hp] at hl
    simp only [pgV] at hl
    have HH := Lib.hid h
    have HP := Lib.hid hp
    have HD := Lib.hid hD
    clear h hD hp
    go_enter Tryz.func252, Tryz.ntmps252
    have HKEY : Hid (keyOf Tryz.prog 3 (.int .i64 (x / 4096)) = some (keyL k)) := by show _ = _; rw [hk]; exact keyOf_nat (by omega)
    have hbl : b < w.heap.size := (RamAt.self ⟨m, pg, HH.out, rfl⟩).2
    go_wp2_with (at_mapUpdate; refine wpList_mapUpdate_own _ rfl _ _ _ 134 rfl 3 137 keyI Tryz.underlying134 pgR m (pgCount pg 256) D rfl (HD.out.own.alloc _) (Nat.lt_of_le_of_lt (pgCount_le pg 256) (by decide)) _ _ (keyL k) rfl rfl HKEY.out _ [] (pgR_V (some w.heap.size)) ?_; intro w1 hown1 hgrow1; have HN := Lib.hid (new_page hgrow1 (j := j) (by omega) HD.out.own.lt); have cN := HN.out.1; have fN := HN.out.2; have HS := Lib.hid (set_new (j := j) HH.out HP.out (by omega) (by omega) v HV.out (by rw [zero_page]) (HD.out.put (by omega) HP.out w.heap.size hown1) hgrow1); clear hown1 hgrow1 HD HH HKEY)
    go_end0
    exact ⟨rfl, by rw [hx.out]; exact HS.out⟩
  · have hc : w.cell? ⟨g, j, none⟩ = some (.int .u8 (ct (4096 * k + j))) := (blk_cell (h.page k g hp) j).trans (pageArr_get _ _ (by omega))
    have hf : w.frozen? ⟨g, j, none⟩ = false := blk_frozen (h.page k g hp) j
    have HS : Hid (RamTo w (w.setCell ⟨g, j, none⟩ (.int .u8 v)) b n (updB ct x.toNat v) (RamOwn m pg)) := by show RamTo _ _ _ _ _ _; rw [hx.out]; exact set_old h hp (by omega) v HV.out
    rw [hp] at hl
    simp only [pgV] at hl
    clear h hD hp
    go_enter Tryz.func252, Tryz.ntmps252
    go_wp2
    go_end0
    exact ⟨rfl, HS.out⟩
end Go.Proofs.YtkogjjeoihnjpaaGreat
end
