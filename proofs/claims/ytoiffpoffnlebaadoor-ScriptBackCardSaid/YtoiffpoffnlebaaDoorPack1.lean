/- Small lemmas on worlds, blocks and bytes that the walks of this seat use. No condition. Slices of numbers and of bools that came in as arguments: what their cells hold, and how great they may be. No condition. Bytes, worlds of which some blocks have turned, and the helpers' contracts (Bytes, Spoil). No condition. Contracts of bits.Word, Bytes, Aligned. No condition. Contracts of the script's reader: take, num. No condition. Rows of api.Input; Plain on two rows that are alike. No condition. What bytes say: a setup, an image, inputs. No condition. Contract of script.Decode. No condition. -/
import Derived.Test.YtoiffpoffnlebaaDoorRows
import Derived.WalkKit
import Derived.WalkSpells
import Derived.WalkLawsBesides
import Derived.Lib.Hide
import Derived.Deep.OwnRows
import Derived.Deep.QuietTactic
import Derived.BigQuiet
import Derived.OpenShut
import Derived.ChangeOld
import Derived.SizedLaws
import Derived.ChangeSlices
import Derived.Deep.Grids
import Derived.Deep.RegionWith
import Derived.Deep.LoopGhost
import Derived.Deep.DeepCutAuto
import Derived.Deep.DeepFit
import Derived.Deep.DeepMust
import Derived.Handy
import Derived.StillTailTactics
import Derived.BigRegion
import Derived.Deep.RegionHeld3
section
set_option linter.unusedVariables false
set_option linter.unusedSimpArgs false
namespace Go.Proofs.YtoiffpoffnlebaaDoor
open Go.RowKit

theorem blk_cell {w : World} {b : Nat} {C : Array Value} {T : TypeId} {fz : Nat × Nat} (h : w.heap[b]? = some (.cells C T fz)) (o : Nat) : w.cell? ⟨b, o, none⟩ = C[o]? := by
  simp [World.cell?, h]
theorem blk_frozen {w : World} {b : Nat} {C : Array Value} {T : TypeId} (h : w.heap[b]? = some (.cells C T (0, 0))) (o : Nat) : w.frozen? ⟨b, o, none⟩ = false := by
  simp [World.frozen?, h]
theorem blk_set {w : World} {b : Nat} {C : Array Value} {T : TypeId} {fz : Nat × Nat} (h : w.heap[b]? = some (.cells C T fz)) (o : Nat) (v : Value) :
    (w.setCell ⟨b, o, none⟩ v).heap[b]? = some (.cells (C.setIfInBounds o v) T fz) := by
  simp [World.setCell, Array.getElem?_modify, h]
theorem blk_set_ne {w : World} {b : Nat} (a : Addr) (v : Value) (hne : a.block ≠ b) : (w.setCell a v).heap[b]? = w.heap[b]? := by
  simp [World.setCell, Array.getElem?_modify, hne]
theorem blk_alloc (w : World) (o : Obj) : (w.alloc o).heap[w.heap.size]? = some o := heap_alloc_new w o
theorem blk_alloc_old (w : World) (o : Obj) (b : Nat) (h : b < w.heap.size) : (w.alloc o).heap[b]? = w.heap[b]? := Below.heap_alloc w o b h
theorem blk_lt {w : World} {b : Nat} {o : Obj} (h : w.heap[b]? = some o) : b < w.heap.size := (Array.getElem?_eq_some_iff.1 h).1
theorem blk_below {B : Nat} {w w' : World} (h : Below B w w') {b : Nat} (hb : b < B) {o : Obj} (hh : w.heap[b]? = some o) : w'.heap[b]? = some o := (h.block b hb).trans hh
theorem below_cells {W w1 : World} (hb : Below W.heap.size W w1) : (∀ b o, b < W.heap.size → w1.cell? ⟨b, o, none⟩ = W.cell? ⟨b, o, none⟩) ∧ (∀ b o, b < W.heap.size → w1.frozen? ⟨b, o, none⟩ = W.frozen? ⟨b, o, none⟩) :=
  ⟨fun b o h => hb.cell (p := ⟨b, o, none⟩) h, fun b o h => hb.frozen (p := ⟨b, o, none⟩) h⟩

theorem A_info5 : (Tryd.prog.info? 5).map (fun i => (i.zero, i.size, i.bytes)) = some (some (.int .u8 0), 1, 1) := by kernel_rfl
theorem A_info4 : (Tryd.prog.info? 4).map (fun i => (i.zero, i.size, i.bytes)) = some (some (.bool false), 1, 1) := by kernel_rfl

theorem ret_int {k : IntKind} {a b : Int} (h : a = b) : Ending.returned (.int k a) = .returned (.int k b) := by rw [h]
theorem ret_bool {a b : Bool} (h : a = b) : Ending.returned (.bool a) = .returned (.bool b) := by rw [h]
theorem cell_set (w : World) (b o b' o' : Nat) (v : Value) : (w.setCell ⟨b, o, none⟩ v).cell? ⟨b', o', none⟩ = if b = b' ∧ o = o' then (w.cell? ⟨b', o', none⟩).map (fun _ => v) else w.cell? ⟨b', o', none⟩ := by
  simp only [World.cell?, World.setCell, Array.getElem?_modify]
  by_cases hb : b = b'
  · subst hb
    simp only [if_true, true_and]
    cases hh : w.heap[b]? with
    | none => simp
    | some ob =>
      cases ob <;> simp
      rw [Array.getElem?_setIfInBounds]
      split
      · rename_i h; subst h; split <;> simp_all
      · rfl
  · simp [hb]
theorem frozen_set (w : World) (a : Addr) (v : Value) (p : Addr) : (w.setCell a v).frozen? p = w.frozen? p := by
  simp only [World.frozen?, World.setCell, Array.getElem?_modify]
  by_cases h : a.block = p.block
  · rw [if_pos h]
    cases hh : w.heap[p.block]? with
    | none => simp
    | some ob => cases ob <;> simp
  · rw [if_neg h]

/-! ### append: onto a row of the call's own, from whatever slice of one-cell elements (nil too) -/
/-- the m cells that a slice leads to hold 'news' -/
def SrcIs (w : World) (ad : Option Addr) (m : Nat) (news : List Value) : Prop :=
  news.length = m ∧ ((ad = none ∧ m = 0) ∨ ∃ b o, ad = some ⟨b, o, none⟩ ∧ ∀ i, i < m → w.cell? ⟨b, o + i, none⟩ = news[i]?)
theorem addr_add (b o i : Nat) : (⟨b, o, none⟩ : Addr).add i = ⟨b, o + i, none⟩ := by unfold Addr.add; split <;> simp_all
theorem run_append_nothing {P : Program} (w : World) (base : Nat) (t ty e : TypeId) (i : TypeInfo) (ht : P.underlying t = some (.slice e)) (hi : P.info? e = some i)
    (v : Value) (n : Nat) (xs : List Value) (hown : w.ownsRow base e i.size v n xs) (c : Nat) :
    (Builtin.append_ #[t, t] ty #[v, .slice none 0 c]).run P w = .ok v w := by
  rcases hown.2 with ⟨rfl, rfl⟩ | ⟨g, cap, cur, rfl, hbg, hg, hnc, hcm, hcs, htake⟩
  · simp [Builtin.append_, run_underlying ht, sizeOf, typeInfo, hi, Builtin.lenOf, Builtin.firstCells, loadCells, loadCellsFrom]
  · simp [Builtin.append_, run_underlying ht, sizeOf, typeInfo, hi, Builtin.lenOf, Builtin.firstCells, loadCells, loadCellsFrom, hnc, storeCells]
theorem wpList_app {P : Program} {w : World} {ops : Array Oper} {rest : List Oper} {o : Oper} {a : Act} {Q : Exit → Act → World → Prop} (hgd : o.guard = none) (s x : Operand) (t : TypeId)
    (ho : o.op = .call { callee := .builtin .append, args := #[s, x], argTypes := #[t, t] })
    (base : Nat) (e : TypeId) (z : Value) (bytes : Nat) (ht : P.underlying t = some (.slice e)) (hinfo : (P.info? e).map (fun i => (i.zero, i.size, i.bytes)) = some (some z, 1, bytes)) (hz1 : z.cells = #[z])
    (v : Value) (n : Nat) (xs : List Value) (hs : a.eval s = v) (hown : w.ownsRow base e 1 v n xs)
    (ad : Option Addr) (m c : Nat) (news : List Value) (hx : a.eval x = .slice ad m c) (hsrc : SrcIs w ad m news) (h1 : ∀ u ∈ news, u.oneCell' = true)
    (hbytes : (n + m) * bytes ≤ 140737488355328) (h63 : n + m ≤ maxLen) (hbase : base ≤ w.heap.size)
    (h : ∀ v' w', w'.ownsRow base e 1 v' (n + m) (xs ++ news) → w.grownBy w' v.ownBlock → (v' = .slice none 0 0 ↔ v = .slice none 0 0 ∧ m = 0) → wpList P ops Q rest (a.put o.dst v') w') : wpList P ops Q (o :: rest) a w := by
  obtain ⟨i, hi, hzz⟩ := Option.map_eq_some_iff.1 hinfo
  simp only [Prod.mk.injEq] at hzz
  obtain ⟨hz, hsz, hb⟩ := hzz
  rcases hsrc with ⟨hl, ⟨rfl, rfl⟩ | ⟨b, of, rfl, hc⟩⟩
  · have hr := run_append_nothing (P := P) w base t o.type e i ht hi v n xs (by rw [hsz]; exact hown) c
    have hn : news = [] := List.eq_nil_of_length_eq_zero hl
    subst hn
    refine wpList_plain hgd fun K hK => ?_
    unfold Oper.wp execOp
    simp only [ho, resolve, invoke, builtin, Sem.run_bind, Sem.run_pure, Result.andThen_ok, List.map_toArray, List.map_cons, List.map_nil, hs, hx, hr]
    exact hK _ _ (h v w (by simpa using hown) ⟨rfl, rfl, rfl, Nat.le_refl _, fun _ _ _ => rfl⟩ (by simp))
  · refine wpList_append_own (w := w) hgd s x t ho base e i z 1 bytes ht hi hz hsz hb (by simp [hz1]) (by omega) v n xs hs hown ⟨b, of, none⟩ m c news hx (by omega) ?_ h1 h63 hbytes hbase h
    intro j u hu
    have hj : j < m := by rw [← hl]; exact (List.getElem?_eq_some_iff.1 hu).1
    rw [addr_add, hc j hj, hu]

theorem src_one (w : World) (v : Value) (T : TypeId) : SrcIs (w.alloc (.cells #[v] T)) (some ⟨w.heap.size, 0, none⟩) 1 [v] := by
  refine ⟨rfl, .inr ⟨_, _, rfl, fun i hi => ?_⟩⟩
  obtain rfl : i = 0 := by omega
  rw [blk_cell (blk_alloc w _)]
  rfl
theorem below_grown {w w' : World} (h : Below w.heap.size w w') (row : Option Nat) : w.grownBy w' row := ⟨h.os, h.tape, h.output, h.size, fun k hk _ => h.block k hk⟩
theorem own_below {w w' : World} {base : Nat} {e : TypeId} {size : Nat} {v : Value} {n : Nat} {xs : List Value} (h : w.ownsRow base e size v n xs) (hb : Below w.heap.size w w') : w'.ownsRow base e size v n xs :=
  h.kept (below_grown hb none) (by cases hv : v.ownBlock <;> simp)
/-- what holds above what was there before both -/
theorem below_then {B : Nat} {a b c : World} (h : Below B a b) (k : Below b.heap.size b c) (hB : B ≤ b.heap.size) : Below B a c := h.trans (k.mono hB)
theorem own_base {B : Nat} {w w' : World} {base : Nat} {e : TypeId} {size : Nat} {v : Value} {n : Nat} {xs : List Value} (h : w.ownsRow base e size v n xs) (hg : w.grownBy w' v.ownBlock) {a : World} (hb : Below B a w) (hB : B ≤ w.heap.size) (hbase : B ≤ base) : Below B a w' :=
  hb.grown hg hB fun k hk => Nat.le_trans hbase (h.lt k hk).1
/-! ### one old block may be written: 'grownBy .. (some b)' -/
theorem grown_refl (w : World) (row : Option Nat) : w.grownBy w row := ⟨rfl, rfl, rfl, Nat.le_refl _, fun _ _ _ => rfl⟩
theorem grown_trans {a b c : World} {row : Option Nat} (h : a.grownBy b row) (k : b.grownBy c row) : a.grownBy c row :=
  ⟨k.os.trans h.os, k.tape.trans h.tape, k.output.trans h.output, Nat.le_trans h.size k.size, fun i hi hr => (k.block i (Nat.lt_of_lt_of_le hi h.size) hr).trans (h.block i hi hr)⟩
theorem grown_drew {a w : World} {row : Option Nat} (h : a.grownBy w row) : a.grownBy w.drew row := ⟨h.os, h.tape, h.output, h.size, h.block⟩
theorem grown_drewN {a w : World} {row : Option Nat} (h : a.grownBy w row) (n : Nat) : a.grownBy (w.drewN n) row := ⟨h.os, h.tape, h.output, h.size, h.block⟩
theorem grown_alloc {a w : World} {row : Option Nat} (h : a.grownBy w row) (o : Obj) : a.grownBy (w.alloc o) row := grown_trans h (World.grownBy_alloc w o row)
theorem grown_set {a w : World} {b : Nat} (h : a.grownBy w (some b)) (o : Nat) (v : Value) : a.grownBy (w.setCell ⟨b, o, none⟩ v) (some b) :=
  grown_trans h ⟨rfl, rfl, rfl, by simp [World.setCell], fun k _ hk => Below.heap_setCell _ _ _ _ (by simpa using hk)⟩
theorem grown_below {B : Nat} {a w w' : World} {b : Nat} (h : Below B a w) (hg : w.grownBy w' (some b)) (hB : B ≤ w.heap.size) (hb : B ≤ b) : Below B a w' := h.grown hg hB (by rintro k ⟨⟩; exact hb)
theorem below_setRow {B : Nat} {a w : World} (h : Below B a w) {g : Nat} (hg : B ≤ g) (cs : Array Value) : Below B a (w.setRow g cs) :=
  h.trans ⟨rfl, rfl, rfl, by simp, fun k hk => setRow_other w g k cs (by omega)⟩
end Go.Proofs.YtoiffpoffnlebaaDoor
end
section
set_option linter.unusedVariables false
namespace Go.Proofs.YtoiffpoffnlebaaDoor
open Go.ChangeShapes Go.WideShapes Go.RowKit Go.Deep

/-- a slice's cells: so many values, in a block that is there -/
def IsRow (w : World) (a : Option Addr) (len : Nat) (V : Nat → Value) : Prop := 0 < len → ∃ b o, a = some ⟨b, o, none⟩ ∧ b < w.heap.size ∧ ∀ i, i < len → w.cell? ⟨b, o + i, none⟩ = some (V i)
theorem IsRow.le {w : World} {a : Option Addr} {len len' : Nat} {V : Nat → Value} (h : IsRow w a len V) (hl : len' ≤ len) : IsRow w a len' V := by
  intro h0
  obtain ⟨b, o, h1, h2, h3⟩ := h (by omega)
  exact ⟨b, o, h1, h2, fun i hi => h3 i (by omega)⟩
/-- what a slice that came in is: its length and capacity, and its cells up to the capacity -/
structure ArgRow (w : World) (a : Option Addr) (len cap : Nat) (V : Nat → Value) : Prop where
  le : len ≤ cap
  max : cap ≤ 9223372036854775807
  nil : a = none → cap = 0
  form : a = none ∨ ∃ b o, a = some ⟨b, o, none⟩ ∧ b < w.heap.size
  row : IsRow w a cap V
theorem slice_form {P : Program} {W : World} {base : Nat} {t e : TypeId} (ht : P.underlying t = some (.slice e)) {a : Option Addr} {len cap : Nat} (h : Value.okWide P W .any base t (.slice a len cap)) : a = none ∨ ∃ b o, a = some ⟨b, o, none⟩ ∧ b < W.heap.size := by
  simp only [Value.okWide, ht, Cell.okWide] at h
  rcases a with _ | ⟨b, o, s⟩
  · exact .inl rfl
  · right
    simp only [Cell.ok, ht] at h
    obtain ⟨_, _, _, hs, r, c, hsh, _⟩ := h
    simp only at hs
    subst hs
    refine ⟨b, o, rfl, ?_⟩
    unfold World.shape? at hsh
    split at hsh
    · rename_i hh
      exact (Array.getElem?_eq_some_iff.1 hh).1
    · cases hsh
/-- how many elements a datum has -/
def DatumHas {H : Type} (d : DataW H) (cap : Nat) : Prop := (d = .nil ∧ cap = 0) ∨ ∃ elems spare, d = .slice elems spare ∧ elems.length + spare.length = cap
theorem row_of_cells {w : World} {a : Addr} {n : Nat} {V : Nat → Value} (h : ∀ i, i < n → w.cell? (a.add i) = some (V i)) : IsRow w (some a) n V := by
  intro hn
  obtain ⟨b, o, s⟩ := a
  have h0 := h 0 hn
  have hs : s = none := by
    unfold Addr.add at h0
    simp only [if_true] at h0
    unfold World.cell? at h0
    split at h0
    · cases s <;> simp_all
    · cases h0
  subst hs
  have hadd : ∀ i, (⟨b, o, none⟩ : Addr).add i = ⟨b, o + i, none⟩ := fun i => by unfold Addr.add; split <;> simp_all
  refine ⟨b, o, rfl, ?_, fun i hi => by rw [← hadd]; exact h i hi⟩
  exact World.block_lt_of_cell? w _ ((hadd 0) ▸ h0)
section
variable {H : Type} {enc : TypeId × Value → H} {P : Program} {W : World}
theorem arg_ints {t e : TypeId} {k : IntKind} (ht : P.underlying t = some (.slice e)) (he : P.underlying e = some (.int k)) (hc : P.cellsOf e = 1) {a : Option Addr} {len cap : Nat} {d : DataW H} {p : List MemPlace} {b0 : Nat} (hv : Value.okWide P W .any b0 t (.slice a len cap))
    (h : DataW.Trod enc P W 0 (fun _ => true) true t (.slice a len cap) d p) :
    ∃ z : Nat → Int, (∀ i, (Lit.int k (z i)).wf = true) ∧ ArgRow W a len cap (fun i => .int k (z i)) ∧ DatumHas d cap := by
  have hform := slice_form ht hv
  obtain ⟨fuel, hf⟩ := h
  have hw0 : (Lit.int k 0).wf = true := by cases k <;> decide
  rcases open_ints ht he hc hf with ⟨hcs, hx⟩ | ⟨ad, len', cap', zs, hcs, _, hl, hm, hz, hx, hcell, hwz⟩
  · simp [Value.cells] at hcs
    obtain ⟨rfl, rfl, rfl⟩ := hcs
    simp only [Prod.mk.injEq] at hx
    exact ⟨fun _ => 0, fun _ => hw0, ⟨Nat.le_refl _, by omega, fun _ => rfl, hform, fun h => absurd h (by omega)⟩, .inl ⟨hx.1, rfl⟩⟩
  · simp [Value.cells] at hcs
    obtain ⟨rfl, rfl, rfl⟩ := hcs
    simp only [Prod.mk.injEq] at hx
    simp only [if_true] at hz
    refine ⟨fun i => zs.getD i 0, fun i => ?_, ⟨hl, hm, (fun h => nomatch h), hform, row_of_cells fun i hi => hcell i (by omega)⟩, .inr ⟨_, _, hx.1, ?_⟩⟩
    · by_cases hi : i < zs.length
      · have e : zs.getD i 0 = zs[i] := by simp [List.getD, hi]
        simp only [e]; exact hwz _ (List.getElem_mem hi)
      · have e : zs.getD i 0 = 0 := by simp [List.getD, hi]
        simp only [e]; exact hw0
    · simp [lits]; omega
theorem arg_bools {t e : TypeId} (ht : P.underlying t = some (.slice e)) (he : P.underlying e = some .bool) (hc : P.cellsOf e = 1) {a : Option Addr} {len cap : Nat} {d : DataW H} {p : List MemPlace} {b0 : Nat} (hv : Value.okWide P W .any b0 t (.slice a len cap))
    (h : DataW.Trod enc P W 0 (fun _ => true) true t (.slice a len cap) d p) :
    ∃ z : Nat → Bool, ArgRow W a len cap (fun i => .bool (z i)) ∧ DatumHas d cap := by
  have hform := slice_form ht hv
  obtain ⟨fuel, hf⟩ := h
  rcases open_bools ht he hc hf with ⟨hcs, hx⟩ | ⟨ad, len', cap', z, hcs, _, hl, hm, hx, hcell⟩
  · simp [Value.cells] at hcs
    obtain ⟨rfl, rfl, rfl⟩ := hcs
    simp only [Prod.mk.injEq] at hx
    exact ⟨fun _ => false, ⟨Nat.le_refl _, by omega, fun _ => rfl, hform, fun h => absurd h (by omega)⟩, .inl ⟨hx.1, rfl⟩⟩
  · simp [Value.cells] at hcs
    obtain ⟨rfl, rfl, rfl⟩ := hcs
    simp only [Prod.mk.injEq] at hx
    refine ⟨z, ⟨hl, hm, (fun h => nomatch h), hform, row_of_cells fun i hi => hcell i hi⟩, .inr ⟨_, _, hx.1, ?_⟩⟩
    simp; omega
/-- the form's reach -/
theorem arg_size {ts : List TypeId} {ds : List (DataW H)} (h : (DataW.weightsEach P ts ds).all (· ≤ reachBytes) = true) {j : Nat} {t e : TypeId} {d : DataW H} {cap : Nat} (ht : ts[j]? = some t) (hd : ds[j]? = some d) (hu : P.underlying t = some (.slice e)) (hh : DatumHas d cap) (b : Nat) (hb : P.bytesOf e = b) :
    cap * b ≤ 140737488351232 := by
  rcases hh with ⟨rfl, rfl⟩ | ⟨el, sp, rfl, rfl⟩
  · omega
  · have := sized_slice h ht hd hu
    rw [hb] at this
    exact this
end
end Go.Proofs.YtoiffpoffnlebaaDoor
end
section
set_option linter.unusedVariables false
set_option linter.unusedSimpArgs false
namespace Go.Proofs.YtoiffpoffnlebaaDoor
open Go.RowKit
/-- the slice at a, of len bytes, reads as l. -/
structure IsB (w : World) (a : Option Addr) (len : Nat) (l : List Int) : Prop where
  hlen : l.length = len
  bd : ∀ x ∈ l, 0 ≤ x ∧ x ≤ 255
  cell : (a = none ∧ len = 0) ∨ ∃ b o, a = some ⟨b, o, none⟩ ∧ ∀ i, i < len → w.cell? ⟨b, o + i, none⟩ = some (.int .u8 (l.getD i 0))
theorem strOfNums_inj (l1 l2 : List Int) (h1 : ∀ x ∈ l1, 0 ≤ x ∧ x ≤ 255) (h2 : ∀ x ∈ l2, 0 ≤ x ∧ x ≤ 255) :
    (l1.map fun n => UInt8.ofNat n.toNat) = (l2.map fun n => UInt8.ofNat n.toNat) ↔ l1 = l2 := by
  constructor
  · intro h
    induction l1 generalizing l2 with
    | nil => cases l2 <;> simp_all
    | cons x l1 ih =>
      cases l2 with
      | nil => simp at h
      | cons y l2 =>
        simp only [List.map_cons, List.cons.injEq] at h
        have hx := h1 x (by simp)
        have hy := h2 y (by simp)
        have e := congrArg UInt8.toNat h.1
        simp at e
        have : x = y := by omega
        rw [this, ih l2 (fun z hz => h1 z (by simp [hz])) (fun z hz => h2 z (by simp [hz])) h.2]
  · intro h; rw [h]
/-- bytes l1, l2 alike, as the call of same.Bytes answers it. -/
def eqB (l1 l2 : List Int) : Bool := decide (l1 = l2)
theorem eqB_str (l1 l2 : List Int) (b1 : ∀ x ∈ l1, 0 ≤ x ∧ x ≤ 255) (b2 : ∀ x ∈ l2, 0 ≤ x ∧ x ≤ 255) : ((strOfNums l1).toList == (strOfNums l2).toList) = eqB l1 l2 := by
  unfold eqB
  rw [ByteArray.toList_eq, ByteArray.toList_eq, strOfNums_data, strOfNums_data, Bool.eq_iff_iff]
  simp [strOfNums_inj l1 l2 b1 b2]
theorem run_bytes_str {w : World} {a : Option Addr} {n : Nat} {l : List Int} (h : IsB w a n l) (c : Nat) :
    (convert 22 9 (.slice a n c)).run Tryd.prog w = .ok (.string (strOfNums l)) w := by
  obtain ⟨e, _, h⟩ := h
  rcases h with ⟨rfl, rfl⟩ | ⟨B, o, rfl, h⟩
  · have := run_convert_bytes_nil w (P := Tryd.prog) 22 5 Tryd.underlying22 Tryd.underlying5 0 c 9 Tryd.underlying9
    rw [List.eq_nil_of_length_eq_zero e]
    exact this
  · exact run_convert_bytes_arg w (P := Tryd.prog) 22 5 Tryd.underlying22 Tryd.underlying5 B o n c l e h 9 Tryd.underlying9
set_option maxHeartbeats 400000 in
theorem same_bytes (a1 a2 : Option Addr) (n1 n2 c1 c2 : Nat) (l1 l2 : List Int) (w : World) (h1 : IsB w a1 n1 l1) (h2 : IsB w a2 n2 l2) :
    Calls Tryd.prog 9 #[.slice a1 n1 c1, .slice a2 n2 c2] w fun e w' => e = .returned (.bool (eqB l1 l2)) ∧ w = w' := by
  have fin : Hid (((strOfNums l1).toList == (strOfNums l2).toList) = eqB l1 l2) := eqB_str l1 l2 h1.bd h2.bd
  have k1 := run_bytes_str h1 c1
  have k2 := run_bytes_str h2 c2
  clear h1 h2
  go_enter Tryd.func9, Tryd.ntmps9
  go_wp2
  go_ret
  exact ⟨ret_bool fin.out, rfl⟩
theorem bytes_own {w : World} {base : Nat} {v : Value} {n : Nat} {l : List Int} (h : w.ownsRow base 5 1 v n (l.map (Value.int .u8))) (hb : ∀ x ∈ l, 0 ≤ x ∧ x ≤ 255) :
    ∃ a c, v = .slice a n c ∧ IsB w a n l := by
  have hl : l.length = n := by have := h.1; simpa using this
  rcases h.2 with ⟨rfl, rfl⟩ | ⟨g, cap, cur, rfl, hg, hh, hn, hm, hs, ht⟩
  · exact ⟨none, 0, rfl, hl, hb, .inl ⟨rfl, rfl⟩⟩
  · refine ⟨_, _, rfl, hl, hb, .inr ⟨g, 0, rfl, fun i hi => ?_⟩⟩
    have hc := h.cells (g := g) rfl i (.int .u8 (l.getD i 0)) (by simp [List.getD, hl, hi])
    have hadd : (⟨g, 0, none⟩ : Addr).add i = ⟨g, 0 + i, none⟩ := by unfold Addr.add; split <;> simp_all
    rw [hadd] at hc
    exact hc

/-! ### worlds of which only some blocks have turned -/
/-- what was there is as it was, but for the blocks of S -/
structure Turned (S : Nat → Prop) (w w' : World) : Prop where
  os : w'.os = w.os
  tape : w'.tape = w.tape
  output : w'.output = w.output
  size : w.heap.size ≤ w'.heap.size
  block : ∀ g, g < w.heap.size → ¬ S g → w'.heap[g]? = w.heap[g]?
theorem Turned.refl (S : Nat → Prop) (w : World) : Turned S w w := ⟨rfl, rfl, rfl, Nat.le_refl _, fun _ _ _ => rfl⟩
theorem Turned.trans {S S' : Nat → Prop} {a b c : World} (h : Turned S a b) (k : Turned S' b c) (hs : ∀ g, S' g → S g ∨ a.heap.size ≤ g) : Turned S a c :=
  ⟨k.os.trans h.os, k.tape.trans h.tape, k.output.trans h.output, Nat.le_trans h.size k.size, fun g hg hn => (k.block g (Nat.lt_of_lt_of_le hg h.size) (fun e => by
    rcases hs g e with e | e
    · exact hn e
    · omega)).trans (h.block g hg hn)⟩
theorem Turned.mono {S S' : Nat → Prop} {a b : World} (h : Turned S a b) (hs : ∀ g, S g → S' g) : Turned S' a b := ⟨h.os, h.tape, h.output, h.size, fun g hg hn => h.block g hg (fun e => hn (hs g e))⟩
theorem Turned.below {S : Nat → Prop} {a b : World} (h : Turned S a b) {B : Nat} (hB : B ≤ a.heap.size) (hs : ∀ g, S g → B ≤ g) : Below B a b :=
  ⟨h.os, h.tape, h.output, h.size, fun g hg => h.block g (by omega) (fun e => by have := hs g e; omega)⟩
theorem Turned.of_below {a b : World} (h : Below a.heap.size a b) (S : Nat → Prop) : Turned S a b := ⟨h.os, h.tape, h.output, h.size, fun g hg _ => h.block g hg⟩
theorem Turned.of_grown {a b : World} {g : Nat} (h : a.grownBy b (some g)) : Turned (· = g) a b := ⟨h.os, h.tape, h.output, h.size, fun k hk hn => h.block k hk (fun e => hn (Option.some.inj e))⟩
theorem Turned.drew {S : Nat → Prop} {a b : World} (h : Turned S a b) : Turned S a b.drew := ⟨h.os, h.tape, h.output, h.size, h.block⟩
theorem Turned.alloc {S : Nat → Prop} {a b : World} (h : Turned S a b) (o : Obj) : Turned S a (b.alloc o) := h.trans (S' := fun _ => False) (.of_below ((Below.refl _ _).alloc (Nat.le_refl _) o) _) (fun _ e => e.elim)
theorem Turned.keep {S : Nat → Prop} {a b : World} (h : Turned S a b) {g : Nat} {o : Obj} (hn : ¬ S g) (ho : a.heap[g]? = some o) : b.heap[g]? = some o := (h.block g (blk_lt ho) hn).trans ho
theorem Turned.set {S : Nat → Prop} {a b : World} (h : Turned S a b) {g : Nat} (hg : S g ∨ a.heap.size ≤ g) (o : Nat) (v : Value) : Turned S a (b.setCell ⟨g, o, none⟩ v) :=
  h.trans (S' := (· = g)) ⟨rfl, rfl, rfl, by simp [World.setCell], fun k _ hk => Below.heap_setCell _ _ _ _ (by simpa using hk)⟩ (by rintro _ rfl; exact hg)
/-- a slice's cells lie in none of these blocks -/
def Apart (S : Nat → Prop) (a : Option Addr) : Prop := ∀ b o s, a = some ⟨b, o, s⟩ → ¬ S b
theorem isB_turned {w w' : World} {S : Nat → Prop} {a : Option Addr} {n : Nat} {l : List Int} (h : IsB w a n l) (ht : Turned S w w') (ha : Apart S a) : IsB w' a n l := by
  obtain ⟨h1, h2, h3⟩ := h
  refine ⟨h1, h2, h3.imp id ?_⟩
  rintro ⟨b, o, rfl, hc⟩
  refine ⟨b, o, rfl, fun i hi => ?_⟩
  have hlt : b < w.heap.size := World.block_lt_of_cell? w _ (hc i hi)
  rw [← hc i hi]
  unfold World.cell?
  simp only [ht.block b hlt (ha b o none rfl)]
theorem isRow_turned {w w' : World} {S : Nat → Prop} {a : Option Addr} {n : Nat} {V : Nat → Value} (h : IsRow w a n V) (ht : Turned S w w') (ha : Apart S a) : IsRow w' a n V := by
  intro hn
  obtain ⟨b, o, rfl, hlt, hc⟩ := h hn
  refine ⟨b, o, rfl, Nat.lt_of_lt_of_le hlt ht.size, fun i hi => ?_⟩
  rw [← hc i hi]
  unfold World.cell?
  simp only [ht.block b hlt (ha b o none rfl)]
theorem drewN_below (w : World) (k : Nat) : Below w.heap.size w (w.drewN k) := ⟨rfl, rfl, rfl, Nat.le_refl _, fun _ _ => rfl⟩
theorem wf_u8' {a : Int} (h : (Lit.int .u8 a).wf = true) : 0 ≤ a ∧ a ≤ 255 := by simpa [Lit.wf, IntKind.min, IntKind.max, IntKind.signed, IntKind.bits] using h
theorem wf_u64' {a : Int} (h : (Lit.int .u64 a).wf = true) : 0 ≤ a ∧ a ≤ 18446744073709551615 := by simpa [Lit.wf, IntKind.min, IntKind.max, IntKind.signed, IntKind.bits] using h
theorem wf_i64' {a : Int} (h : (Lit.int .i64 a).wf = true) : -9223372036854775808 ≤ a ∧ a ≤ 9223372036854775807 := by simpa [Lit.wf, IntKind.min, IntKind.max, IntKind.signed, IntKind.bits] using h
/-- the first n numbers of z -/
def listOf (z : Nat → Int) (n : Nat) : List Int := (List.range n).map z
theorem listOf_len (z : Nat → Int) (n : Nat) : (listOf z n).length = n := by simp [listOf]
theorem listOf_getD (z : Nat → Int) (n i : Nat) (h : i < n) : (listOf z n).getD i 0 = z i := by simp [listOf, List.getD, h]
theorem argB {w : World} {a : Option Addr} {len cap : Nat} {z : Nat → Int} (h : ArgRow w a len cap (fun i => .int .u8 (z i))) (hz : ∀ i, (Lit.int .u8 (z i)).wf = true) {n : Nat} (hn : n ≤ cap) : IsB w a n (listOf z n) := by
  refine ⟨listOf_len _ _, fun x hx => ?_, ?_⟩
  · simp only [listOf, List.mem_map] at hx
    obtain ⟨i, _, rfl⟩ := hx
    exact wf_u8' (hz i)
  · rcases h.form with h0 | ⟨b, o, rfl, hb⟩
    · exact .inl ⟨h0, by have := h.nil h0; omega⟩
    · right
      refine ⟨b, o, rfl, fun i hi => ?_⟩
      obtain ⟨b', o', h1, _, h3⟩ := h.row (by omega)
      cases h1
      rw [h3 i (by omega), listOf_getD _ _ _ hi]
/-- an argument's cells lie in none of the blocks that are made since -/
theorem ArgRow.apart {w : World} {a : Option Addr} {len cap : Nat} {V : Nat → Value} (h : ArgRow w a len cap V) {S : Nat → Prop} (hS : ∀ g, S g → w.heap.size ≤ g) : Apart S a := by
  rintro b o s rfl hb
  rcases h.form with h0 | ⟨b', o', h1, h2⟩
  · cases h0
  · cases h1
    have := hS b hb
    omega
end Go.Proofs.YtoiffpoffnlebaaDoor
end
section
set_option linter.unusedVariables false
set_option linter.unusedSimpArgs false
namespace Go.Proofs.YtoiffpoffnlebaaDoor
open Go.RowKit
/-- the number of which these are the bytes, the lowest first -/
def wordN (f : Nat → Nat) : Nat → Nat
  | 0 => 0
  | k + 1 => wordN f k + f k * 2 ^ (8 * k)
theorem wordN_lt {f : Nat → Nat} (h : ∀ i, f i < 256) : ∀ k, wordN f k < 2 ^ (8 * k)
  | 0 => by simp [wordN]
  | k + 1 => by
    have h1 := wordN_lt h k
    have h2 := h k
    have e : 2 ^ (8 * (k + 1)) = 256 * 2 ^ (8 * k) := by rw [show 8 * (k + 1) = 8 * k + 8 by omega, Nat.pow_add]; omega
    unfold wordN
    rw [e]
    have : f k * 2 ^ (8 * k) ≤ 255 * 2 ^ (8 * k) := Nat.mul_le_mul_right _ (by omega)
    omega
theorem wordN_congr {f g : Nat → Nat} : ∀ (k : Nat), (∀ i, i < k → f i = g i) → wordN f k = wordN g k
  | 0, _ => rfl
  | k + 1, h => by unfold wordN; rw [wordN_congr k (fun i hi => h i (by omega)), h k (by omega)]
theorem word_or {f : Nat → Nat} (h : ∀ i, f i < 256) {k : Nat} (hk : k < 8) : Value.int .u64 (bits .or .u64 (wordN f k : Nat) (IntKind.u64.wrap (IntKind.u64.wrap (f k : Int) * 2 ^ (8 * k)))) = .int .u64 (wordN f (k + 1) : Nat) := by
  have h1 := wordN_lt h k
  have h2 := wordN_lt h (k + 1)
  have h3 : (2 : Nat) ^ (8 * (k + 1)) ≤ 2 ^ 64 := Nat.pow_le_pow_right (by omega) (by omega)
  have e0 : IntKind.u64.wrap (f k : Int) = f k := by have := h k; rw [IntKind.wrap_u64]; omega
  have e : ((f k : Int) * 2 ^ (8 * k)) = ((f k * 2 ^ (8 * k) : Nat) : Int) := by rw [Int.natCast_mul, Int.natCast_pow]; rfl
  have e3 : wordN f (k + 1) = wordN f k + f k * 2 ^ (8 * k) := rfl
  have e4 : wordN f k + f k * 2 ^ (8 * k) = wordN f k ||| f k * 2 ^ (8 * k) := by rw [Nat.or_comm, Nat.mul_comm, ← Nat.two_pow_add_eq_or_of_lt h1, Nat.add_comm]
  rw [e0, e]
  rw [e3] at h2
  rw [e3, e4]
  rw [e4] at h2
  generalize f k * 2 ^ (8 * k) = A at *
  generalize wordN f k = B at *
  have hA : A < 18446744073709551616 := by omega
  have hB : B < 18446744073709551616 := by omega
  rw [IntKind.wrap_u64, Int.emod_eq_of_lt (by omega) (by omega), u64_or_nat _ _ hB hA]
set_option maxRecDepth 100000 in
set_option maxHeartbeats 2000000 in
theorem bits_word_le (a : Option Addr) (m c : Nat) (l : List Int) (w : World) (hb : IsB w a m l) (hm : (m : Int) ≤ 9223372036854775807) (h8 : (m : Int) ≤ 8) :
    Calls Tryd.prog 24 #[.slice a m c] w fun e w' => e = .returned (.int .u64 (wordN (fun i => (l.getD i 0).toNat) m : Nat)) ∧ w = w' := by
  have H := Lib.hid hb
  have H255 := Lib.hid (show ∀ i, (l.getD i 0).toNat < 256 from fun i => by
    by_cases hi : i < l.length
    · have := hb.bd (l.getD i 0) (by simp [List.getD, hi])
      omega
    · simp [List.getD, hi])
  clear hb
  generalize hf : (fun i => (l.getD i 0).toNat) = f
  have HF := Lib.hid hf
  have HLT := Lib.hid (show ∀ i, f i < 256 from fun i => by rw [← hf]; exact H255.out i)
  clear hf
  go_enter Tryd.func24, Tryd.ntmps24
  go_wp2_with fail
  go_loop [3, 8] (fun v i => ∃ k : Nat, (k : Int) ≤ m ∧ i = .int .i64 k ∧ v = .int .u64 (wordN f k : Nat)) (fun _ i => m - (intOf i).toNat)
  case atStart => exact ⟨0, by omega, rfl, rfl⟩
  case round =>
    obtain ⟨k, hk, rfl, rfl⟩ := hrel
    by_cases hlt : (k : Int) < m
    · have h1 : (k : Int) < m := by omega
      have h2 : (k : Int) < 8 := by omega
      clear hk
      obtain ⟨b, o, rfl, hc⟩ : ∃ b o, a = some ⟨b, o, none⟩ ∧ w.cell? ⟨b, o + k, none⟩ = some (.int .u8 (f k : Nat)) := by
        rcases H.out.cell with ⟨_, h0⟩ | ⟨b, o, rfl, h⟩
        · omega
        · refine ⟨b, o, rfl, (h k (by omega)).trans ?_⟩
          have : 0 ≤ l.getD k 0 := by
            by_cases hkl : k < l.length
            · have := H.out.bd (l.getD k 0) (by simp [List.getD, hkl])
              omega
            · simp [List.getD, hkl]
          rw [← HF.out]
          simp only
          rw [Int.toNat_of_nonneg this]
      have hor := word_or (k := k) HLT.out (by omega)
      have HO := Lib.hid hor
      clear hor
      go_wp2_with fail
      exact ⟨⟨k + 1, by omega, by rw [Int.natCast_succ], HO.out⟩, by simp [intOf]; omega⟩
    · obtain rfl : k = m := by omega
      go_wp2_with fail
      go_ret
      exact ⟨rfl, rfl⟩
set_option maxRecDepth 100000 in
set_option maxHeartbeats 2000000 in
theorem bits_word_gt (a : Option Addr) (m c : Nat) (l : List Int) (w : World) (hb : IsB w a m l) (hm : (m : Int) ≤ 9223372036854775807) (h8 : (8 : Int) < m) :
    Calls Tryd.prog 24 #[.slice a m c] w fun e w' => e = .returned (.int .u64 (wordN (fun i => (l.getD i 0).toNat) 8 : Nat)) ∧ w = w' := by
  have H := Lib.hid hb
  have H255 := Lib.hid (show ∀ i, (l.getD i 0).toNat < 256 from fun i => by
    by_cases hi : i < l.length
    · have := hb.bd (l.getD i 0) (by simp [List.getD, hi])
      omega
    · simp [List.getD, hi])
  clear hb
  generalize hf : (fun i => (l.getD i 0).toNat) = f
  have HF := Lib.hid hf
  have HLT := Lib.hid (show ∀ i, f i < 256 from fun i => by rw [← hf]; exact H255.out i)
  clear hf
  go_enter Tryd.func24, Tryd.ntmps24
  go_wp2_with fail
  go_loop [3, 8] (fun v i => ∃ k : Nat, (k : Int) ≤ 8 ∧ i = .int .i64 k ∧ v = .int .u64 (wordN f k : Nat)) (fun _ i => 8 - (intOf i).toNat)
  case atStart => exact ⟨0, by omega, rfl, rfl⟩
  case round =>
    obtain ⟨k, hk, rfl, rfl⟩ := hrel
    by_cases hlt : (k : Int) < 8
    · have h1 : (k : Int) < m := by omega
      have h2 : (k : Int) < 8 := by omega
      clear hk
      obtain ⟨b, o, rfl, hc⟩ : ∃ b o, a = some ⟨b, o, none⟩ ∧ w.cell? ⟨b, o + k, none⟩ = some (.int .u8 (f k : Nat)) := by
        rcases H.out.cell with ⟨_, h0⟩ | ⟨b, o, rfl, h⟩
        · omega
        · refine ⟨b, o, rfl, (h k (by omega)).trans ?_⟩
          have : 0 ≤ l.getD k 0 := by
            by_cases hkl : k < l.length
            · have := H.out.bd (l.getD k 0) (by simp [List.getD, hkl])
              omega
            · simp [List.getD, hkl]
          rw [← HF.out]
          simp only
          rw [Int.toNat_of_nonneg this]
      have hor := word_or (k := k) HLT.out (by omega)
      have HO := Lib.hid hor
      clear hor
      go_wp2_with fail
      exact ⟨⟨k + 1, by omega, by rw [Int.natCast_succ], HO.out⟩, by simp [intOf]; omega⟩
    · obtain rfl : k = 8 := by omega
      go_wp2_with fail
      go_ret
      exact ⟨rfl, rfl⟩
theorem bits_word (a : Option Addr) (m c : Nat) (l : List Int) (w : World) (hb : IsB w a m l) (hm : (m : Int) ≤ 9223372036854775807) :
    Calls Tryd.prog 24 #[.slice a m c] w fun e w' => e = .returned (.int .u64 (wordN (fun i => (l.getD i 0).toNat) (min m 8) : Nat)) ∧ w = w' := by
  by_cases h8 : (m : Int) ≤ 8
  · rw [show min m 8 = m by omega]; exact bits_word_le a m c l w hb hm h8
  · rw [show min m 8 = 8 by omega]; exact bits_word_gt a m c l w hb hm (by omega)
/-- the bytes of a number, the lowest first -/
def numBytes (v k : Nat) : List Int := (List.range k).map fun i => ((v / 2 ^ (8 * i) % 256 : Nat) : Int)
theorem numBytes_snoc (v k : Nat) : numBytes v (k + 1) = numBytes v k ++ [((v / 2 ^ (8 * k) % 256 : Nat) : Int)] := by simp [numBytes, List.range_succ]
theorem numBytes_len (v k : Nat) : (numBytes v k).length = k := by simp [numBytes]
theorem numBytes_bd (v k : Nat) : ∀ x ∈ numBytes v k, 0 ≤ x ∧ x ≤ 255 := by
  intro x hx
  simp only [numBytes, List.mem_map] at hx
  obtain ⟨i, _, rfl⟩ := hx
  omega
/-- those bytes in a slice of their own -/
def OwnSlice (w : World) (n : Nat) (l : List Int) (e : Ending) (w' : World) : Prop := ∃ v, e = .returned v ∧ w'.ownsRow w.heap.size 5 1 v n (l.map (Value.int .u8)) ∧ Below w.heap.size w w'
set_option maxRecDepth 100000 in
set_option maxHeartbeats 2000000 in
theorem bits_bytes (v : Nat) (n : Nat) (hn : (n : Int) ≤ 8) (w : World) :
    Calls Tryd.prog 22 #[.int .u64 v, .int .i64 n] w (OwnSlice w n (numBytes v n)) := by
  have HB0 := Lib.hid (numBytes_snoc v)
  have HL := Lib.hid (show numBytes v 0 = [] from rfl)
  go_enter Tryd.func22, Tryd.ntmps22
  go_wp2_with fail
  go_loopw [5, 10] (fun s i wr => ∃ j : Nat, (j : Int) ≤ n ∧ i = .int .i64 j ∧ wr.ownsRow w.heap.size 5 1 s j ((numBytes v j).map (Value.int .u8)) ∧ Below w.heap.size w wr) (fun _ i _ => n - (intOf i).toNat)
  case atStart => exact ⟨0, by omega, rfl, by rw [HL.out]; exact World.ownsRow_nil _ _ _ _, Below.refl _ _⟩
  case round =>
    obtain ⟨j, hj, rfl, hown, hb⟩ := hrel
    have HW := Lib.hid hown
    have HBB := Lib.hid hb
    clear hown hb
    by_cases hlt : (j : Int) < n
    · clear hj
      have hj8 : (j : Int) < 8 := by omega
      have hb8 : IntKind.u8.wrap ((v : Int) / 2 ^ (8 * j)) = ((v / 2 ^ (8 * j) % 256 : Nat) : Int) := by
        rw [IntKind.wrap_u8, Int.natCast_emod, Int.natCast_ediv, Int.natCast_pow]; rfl
      have hz : Hid (w.heap.size ≤ (wr.alloc (.cells #[Value.int .u8 (v / 2 ^ (8 * j) % 256 : Nat)] 5)).heap.size) := by have := HBB.out.size; show _ ≤ _; simp; omega
      have hone : Hid (∀ u ∈ [Value.int .u8 (v / 2 ^ (8 * j) % 256 : Nat)], u.oneCell' = true) := by intro u hu; simp at hu; subst hu; rfl
      go_wp2_with (at_builtin; refine wpList_app rfl _ _ 22 rfl w.heap.size 5 (.int .u8 0) 1 Tryd.underlying22 A_info5 rfl _ j _ rfl (HW.out.alloc _) _ _ _ [Value.int .u8 (v / 2 ^ (8 * j) % 256 : Nat)] rfl (src_one wr _ 5) hone.out (by omega) (by unfold maxLen; omega) hz.out ?_; intro v' w2 hown hg _; have HW2 := Lib.hid hown; have HG := Lib.hid hg; clear hown hg)
      all_goals
        refine ⟨⟨j + 1, by omega, by rw [Int.natCast_succ], ?_, ?_⟩, by simp [intOf]; omega⟩
        · rw [HB0.out, List.map_append]; exact HW2.out
        · exact own_base (HW.out.alloc _) HG.out (HBB.out.alloc HBB.out.size _) hz.out (Nat.le_refl _)
    · obtain rfl : j = n := by omega
      go_wp2
      go_ret
      exact ⟨_, rfl, HW.out, HBB.out⟩
end Go.Proofs.YtoiffpoffnlebaaDoor
end
section
set_option linter.unusedVariables false
set_option linter.unusedSimpArgs false
namespace Go.Proofs.YtoiffpoffnlebaaDoor
open Go.RowKit
set_option maxRecDepth 100000
/-- a reader that has len bytes left, from place p of block g on -/
def RdIs (w : World) (b g p len cap : Nat) : Prop := w.heap[b]? = some (.cells #[.slice (some ⟨g, p, none⟩) len cap] 43 (0, 0))
def rdTo (w : World) (b g p len cap : Nat) : World := w.setCell ⟨b, 0, none⟩ (.slice (some ⟨g, p, none⟩) len cap)
theorem rdTo_is {w : World} {b g p len cap : Nat} (h : RdIs w b g p len cap) (p' len' cap' : Nat) : RdIs (rdTo w b g p' len' cap') b g p' len' cap' := by
  unfold RdIs rdTo at *
  rw [blk_set h]; rfl
set_option maxHeartbeats 2000000 in
theorem rd_take_le (b g p len cap n : Nat) (w : World) (h : RdIs w b g p len cap) (hc : len ≤ cap) (hm : (cap : Int) ≤ 9223372036854775807) (hn : (n : Int) ≤ len) (hnc : (n : Int) < cap) :
    Calls Tryd.prog 15 #[.pointer (some ⟨b, 0, none⟩), .int .i64 n] w fun e w' => e = .returned (.slice (some ⟨g, p, none⟩) n n) ∧ w' = rdTo w b g (p + n) (len - n) (cap - n) := by
  have c0 := blk_cell h 0
  have f0 := blk_frozen h 0
  simp at c0
  have H := Lib.hid h
  have hlt : (len : Int) ≤ cap := by omega
  have hne : ¬ n = cap := by omega
  clear h hc
  unfold rdTo
  go_enter Tryd.func15, Tryd.ntmps15
  go_wp2_with fail
  go_ret
  exact ⟨rfl, rfl⟩
set_option maxHeartbeats 2000000 in
theorem rd_take_all (b g p n : Nat) (w : World) (h : RdIs w b g p n n) (hm : (n : Int) ≤ 9223372036854775807) :
    Calls Tryd.prog 15 #[.pointer (some ⟨b, 0, none⟩), .int .i64 n] w fun e w' => e = .returned (.slice (some ⟨g, p, none⟩) n n) ∧ w' = rdTo w b g p 0 0 := by
  have c0 := blk_cell h 0
  have f0 := blk_frozen h 0
  simp at c0
  have H := Lib.hid h
  clear h
  unfold rdTo
  go_enter Tryd.func15, Tryd.ntmps15
  go_wp2_with fail
  go_ret
  exact ⟨rfl, by simp⟩
set_option maxHeartbeats 2000000 in
theorem rd_take_gt (b g p len cap : Nat) (n : Int) (w : World) (h : RdIs w b g p len cap) (hc : len < cap) (hm : (cap : Int) ≤ 9223372036854775807) (hn : (len : Int) < n) :
    Calls Tryd.prog 15 #[.pointer (some ⟨b, 0, none⟩), .int .i64 n] w fun e w' => e = .returned (.slice (some ⟨g, p, none⟩) len len) ∧ w' = rdTo w b g (p + len) 0 (cap - len) := by
  have c0 := blk_cell h 0
  have f0 := blk_frozen h 0
  simp at c0
  have H := Lib.hid h
  have hlt : (len : Int) < cap := by omega
  clear h hc
  unfold rdTo
  go_enter Tryd.func15, Tryd.ntmps15
  go_wp2_with fail
  go_ret
  refine ⟨rfl, ?_⟩
  simp
set_option maxHeartbeats 2000000 in
theorem rd_take_gt_all (b g p len : Nat) (n : Int) (w : World) (h : RdIs w b g p len len) (hm : (len : Int) ≤ 9223372036854775807) (hn : (len : Int) < n) :
    Calls Tryd.prog 15 #[.pointer (some ⟨b, 0, none⟩), .int .i64 n] w fun e w' => e = .returned (.slice (some ⟨g, p, none⟩) len len) ∧ w' = rdTo w b g p 0 0 := by
  have c0 := blk_cell h 0
  have f0 := blk_frozen h 0
  simp at c0
  have H := Lib.hid h
  clear h
  unfold rdTo
  go_enter Tryd.func15, Tryd.ntmps15
  go_wp2_with fail
  go_ret
  refine ⟨rfl, ?_⟩
  simp
/-- the bytes that are read: m of them, at the head of block g -/
structure Src (w : World) (g m : Nat) (l : List Int) : Prop where
  len : l.length = m
  bd : ∀ x ∈ l, 0 ≤ x ∧ x ≤ 255
  lt : g < w.heap.size
  cell : ∀ i, i < m → w.cell? ⟨g, i, none⟩ = some (.int .u8 (l.getD i 0))
theorem Src.to {w : World} {g m : Nat} {l : List Int} (h : Src w g m l) {w' : World} (hs : w.heap.size ≤ w'.heap.size) (hc : w'.heap[g]? = w.heap[g]?) : Src w' g m l :=
  ⟨h.len, h.bd, Nat.lt_of_lt_of_le h.lt hs, fun i hi => (World.cell?_of_block hc).trans (h.cell i hi)⟩
theorem rdTo_size (w : World) (b g p len cap : Nat) : (rdTo w b g p len cap).heap.size = w.heap.size := by unfold rdTo; simp
theorem Src.rdTo {w : World} {g m : Nat} {l : List Int} (h : Src w g m l) {b p len cap : Nat} (hb : b ≠ g) : Src (rdTo w b g p len cap) g m l :=
  h.to (Nat.le_of_eq (rdTo_size ..).symm) (by unfold YtoiffpoffnlebaaDoor.rdTo; exact blk_set_ne _ _ hb)
def byteAt (l : List Int) (i : Nat) : Nat := (l.getD i 0).toNat
theorem byteAt_end {l : List Int} {i : Nat} (h : l.length ≤ i) : byteAt l i = 0 := by simp [byteAt, List.getD, h]
theorem byteAt_lt {l : List Int} (h : ∀ x ∈ l, 0 ≤ x ∧ x ≤ 255) (i : Nat) : byteAt l i < 256 := by
  unfold byteAt
  by_cases hi : i < l.length
  · have := h (l.getD i 0) (by simp [List.getD, hi])
    omega
  · simp [List.getD, hi]
theorem Src.isB {w : World} {g m : Nat} {l : List Int} (h : Src w g m l) (p k : Nat) (hk : p + k ≤ m) : IsB w (some ⟨g, p, none⟩) k ((l.drop p).take k) := by
  refine ⟨by simp [h.len]; omega, fun x hx => h.bd x (List.mem_of_mem_drop (List.mem_of_mem_take hx)), .inr ⟨g, p, rfl, fun i hi => ?_⟩⟩
  rw [h.cell (p + i) (by omega)]
  congr 2
  simp [List.getD, List.getElem?_take, List.getElem?_drop, hi]
theorem wordN_pad {f : Nat → Nat} : ∀ (n k : Nat), k ≤ n → (∀ i, k ≤ i → i < n → f i = 0) → wordN f n = wordN f k
  | 0, k, hk, _ => by obtain rfl : k = 0 := by omega
                      rfl
  | n + 1, k, hk, h => by
    by_cases e : k = n + 1
    · rw [e]
    · show wordN f n + f n * 2 ^ (8 * n) = _
      rw [wordN_pad n k (by omega) (fun i h1 h2 => h i h1 (by omega)), h n (by omega) (by omega)]
      simp
theorem wordN_src (l : List Int) (p k n : Nat) (hk : k = min n (l.length - p)) (hn : n ≤ 8) : wordN (fun i => (((l.drop p).take k).getD i 0).toNat) (min k 8) = wordN (fun i => byteAt l (p + i)) n := by
  rw [wordN_pad n k (by omega) (fun i h1 h2 => byteAt_end (by omega)), Nat.min_eq_left (by omega)]
  refine wordN_congr k fun i hi => ?_
  simp [byteAt, List.getD, List.getElem?_take, List.getElem?_drop, hi]
/-- only that block has turned -/
structure Only (b : Nat) (w w' : World) : Prop where
  os : w'.os = w.os
  tape : w'.tape = w.tape
  output : w'.output = w.output
  size : w'.heap.size = w.heap.size
  other : ∀ k, k ≠ b → w'.heap[k]? = w.heap[k]?
theorem Only.rdTo (w : World) (b g p len cap : Nat) : Only b w (YtoiffpoffnlebaaDoor.rdTo w b g p len cap) :=
  have hb : Below 0 w (YtoiffpoffnlebaaDoor.rdTo w b g p len cap) := (Below.refl 0 w).setCell (Nat.zero_le _) _
  ⟨hb.os, hb.tape, hb.output, rdTo_size .., fun k hk => by unfold YtoiffpoffnlebaaDoor.rdTo; exact blk_set_ne _ _ (fun e => hk e.symm)⟩
theorem Only.below {b B : Nat} {w0 w w' : World} (h : Only b w w') (hb : Below B w0 w) (hB : B ≤ b) : Below B w0 w' :=
  ⟨h.os.trans hb.os, h.tape.trans hb.tape, h.output.trans hb.output, by rw [h.size]; exact hb.size, fun k hk => (h.other k (by omega)).trans (hb.block k hk)⟩
theorem Only.src {b g m : Nat} {l : List Int} {w w' : World} (h : Only b w w') (hs : Src w g m l) (hb : b ≠ g) : Src w' g m l := hs.to (Nat.le_of_eq h.size.symm) (h.other g (fun e => hb e.symm))
theorem Only.cell {b k o : Nat} {w w' : World} (h : Only b w w') (hk : k ≠ b) : w'.cell? ⟨k, o, none⟩ = w.cell? ⟨k, o, none⟩ := World.cell?_of_block (h.other k hk)
/-- a reader that stands at place q of m bytes (or at the end) -/
def Rd (w : World) (b g m q : Nat) : Prop := ∃ p c, RdIs w b g p (m - q) c ∧ (q < m → p = q) ∧ m - q ≤ c ∧ c ≤ 9223372036854775807
theorem rd_takeQ (b g m q n : Nat) (w : World) (h : Rd w b g m q) :
    Calls Tryd.prog 15 #[.pointer (some ⟨b, 0, none⟩), .int .i64 n] w fun e w' => (∃ p, e = .returned (.slice (some ⟨g, p, none⟩) (min n (m - q) : Nat) (min n (m - q) : Nat)) ∧ (q < m → p = q)) ∧ Rd w' b g m (q + n) ∧ Only b w w' := by
  obtain ⟨p, c, h1, h2, h3, h4⟩ := h
  have tt0 : ∀ p' len' c', len' = m - (q + n) → (q + n < m → p' = q + n) → len' ≤ c' → c' ≤ c → Rd (rdTo w b g p' len' c') b g m (q + n) := fun p' len' c' e1 e2 e3 e4 => by
    refine ⟨p', c', ?_, e2, by omega, by omega⟩
    rw [← e1]; exact rdTo_is h1 _ _ _
  by_cases hn : n ≤ m - q
  · rw [Nat.min_eq_left hn]
    by_cases hc : n = c
    · obtain rfl : m - q = n := by omega
      subst hc
      refine (rd_take_all b g p _ w h1 (by omega)).mono fun e w' hh => ?_
      obtain ⟨rfl, rfl⟩ := hh
      exact ⟨⟨p, rfl, h2⟩, tt0 _ _ _ (by omega) (fun e => by omega) (by omega) (by omega), Only.rdTo ..⟩
    · refine (rd_take_le b g p (m - q) c n w h1 h3 (by omega) (by omega) (by omega)).mono fun e w' hh => ?_
      obtain ⟨rfl, rfl⟩ := hh
      exact ⟨⟨p, rfl, h2⟩, tt0 _ _ _ (by omega) (fun e => by have := h2 (by omega); omega) (by omega) (by omega), Only.rdTo ..⟩
  · rw [Nat.min_eq_right (by omega)]
    by_cases hc : m - q = c
    · subst hc
      refine (rd_take_gt_all b g p (m - q) n w h1 (by omega) (by omega)).mono fun e w' hh => ?_
      obtain ⟨rfl, rfl⟩ := hh
      exact ⟨⟨p, rfl, h2⟩, tt0 _ _ _ (by omega) (fun e => by omega) (by omega) (by omega), Only.rdTo ..⟩
    · refine (rd_take_gt b g p (m - q) c n w h1 (by omega) (by omega) (by omega)).mono fun e w' hh => ?_
      obtain ⟨rfl, rfl⟩ := hh
      exact ⟨⟨p, rfl, h2⟩, tt0 _ _ _ (by omega) (fun e => by omega) (by omega) (by omega), Only.rdTo ..⟩
theorem Src.isB' {w : World} {g m : Nat} {l : List Int} (h : Src w g m l) (q p k : Nat) (hk : k ≤ m - q) (hp : q < m → p = q) : IsB w (some ⟨g, p, none⟩) k ((l.drop q).take k) := by
  by_cases hq : q < m
  · rw [hp hq]; exact h.isB q k (by omega)
  · obtain rfl : k = 0 := by omega
    exact ⟨by simp, by simp, .inr ⟨g, p, rfl, fun i hi => by omega⟩⟩
set_option maxHeartbeats 2000000 in
theorem rd_numQ (b g m q n : Nat) (l : List Int) (w : World) (hs : Src w g m l) (hbg : b ≠ g) (h : Rd w b g m q) (hm : (m : Int) ≤ 140737488351232) (hn : n ≤ 8) :
    Calls Tryd.prog 14 #[.pointer (some ⟨b, 0, none⟩), .int .i64 n] w fun e w' => e = .returned (.int .u64 (wordN (fun i => byteAt l (q + i)) n : Nat)) ∧ Rd w' b g m (q + n) ∧ Only b w w' := by
  have T := Lib.hid (rd_takeQ b g m q n w h)
  have E := wordN_src l q (min n (m - q)) n (by rw [hs.len]) hn
  have B := fun (w' : World) (p : Nat) (hs : Src w' g m l) (hp : q < m → p = q) => bits_word (some ⟨g, p, none⟩) (min n (m - q)) (min n (m - q)) _ w' (hs.isB' q p (min n (m - q)) (by omega) hp) (by omega)
  rw [E] at B
  have B := Lib.hid B
  have S := Lib.hid hs
  clear E hs h hm hn
  generalize min n (m - q) = k at *
  go_enter Tryd.func14, Tryd.ntmps14
  go_wp2_with fail
  refine T.out.mono ?_
  rintro e w1 ⟨⟨p, rfl, hp⟩, hR, hO⟩
  have HR := Lib.hid hR; have HO := Lib.hid hO; have HP := Lib.hid hp
  clear hR hO hp
  go_wp2_with fail
  refine (B.out _ p (HO.out.src S.out hbg) HP.out).mono ?_
  rintro e w2 ⟨rfl, rfl⟩
  go_wp2_with fail
  go_ret
  exact ⟨rfl, HR.out, HO.out⟩
/-- the next byte -/
theorem rd_byte (b g m q : Nat) (l : List Int) (w : World) (hs : Src w g m l) (hbg : b ≠ g) (h : Rd w b g m q) (hm : (m : Int) ≤ 140737488351232) :
    Calls Tryd.prog 14 #[.pointer (some ⟨b, 0, none⟩), .int .i64 1] w fun e w' => e = .returned (.int .u64 (byteAt l q : Nat)) ∧ Rd w' b g m (q + 1) ∧ Only b w w' :=
  (rd_numQ b g m q 1 l w hs hbg h hm (by omega)).mono fun e w' hh => by simpa [wordN] using hh
theorem rd_two (b g m q : Nat) (l : List Int) (w : World) (hs : Src w g m l) (hbg : b ≠ g) (h : Rd w b g m q) (hm : (m : Int) ≤ 140737488351232) :
    Calls Tryd.prog 14 #[.pointer (some ⟨b, 0, none⟩), .int .i64 2] w fun e w' => e = .returned (.int .u64 (byteAt l q + 256 * byteAt l (q + 1) : Nat)) ∧ Rd w' b g m (q + 2) ∧ Only b w w' :=
  (rd_numQ b g m q 2 l w hs hbg h hm (by omega)).mono fun e w' hh => by
    have e2 : wordN (fun i => byteAt l (q + i)) 2 = byteAt l q + 256 * byteAt l (q + 1) := by simp [wordN]; omega
    rw [e2] at hh
    exact hh
end Go.Proofs.YtoiffpoffnlebaaDoor
end
section
set_option linter.unusedVariables false
set_option linter.unusedSimpArgs false
namespace Go.Proofs.YtoiffpoffnlebaaDoor
open Go.RowKit
set_option maxRecDepth 100000
structure Inp where
  lines : Int
  rx : Int
  delay : Int
  pick : Int
  deriving DecidableEq
def Inp.vals (a : Inp) : List Value := [.int .i64 a.lines, .int .i64 a.rx, .int .i64 a.delay, .int .i64 a.pick]
theorem Inp.one (l : List Inp) : ∀ u ∈ l.flatMap Inp.vals, u.oneCell' = true := by
  intro u hu
  obtain ⟨a, _, ha⟩ := List.mem_flatMap.1 hu
  simp only [Inp.vals, List.mem_cons, List.not_mem_nil, or_false] at ha
  rcases ha with rfl | rfl | rfl | rfl <;> rfl
theorem Inp.len (l : List Inp) : (l.flatMap Inp.vals).length = l.length * 4 := by
  induction l with
  | nil => rfl
  | cons a l ih => rw [List.flatMap_cons, List.length_append, ih, List.length_cons]; simp [Inp.vals]; omega
theorem Inp.at_ (l : List Inp) (k j : Nat) (hj : j < 4) (hk : k < l.length) : (l.flatMap Inp.vals)[k * 4 + j]? = ((l[k]).vals)[j]? := by
  induction l generalizing k with
  | nil => simp at hk
  | cons a l ih =>
    rw [List.flatMap_cons]
    cases k with
    | zero => rw [List.getElem?_append_left (by simp [Inp.vals]; omega)]; simp
    | succ k =>
      rw [List.getElem?_append_right (by simp [Inp.vals]; omega)]
      have e : (k + 1) * 4 + j - a.vals.length = k * 4 + j := by simp [Inp.vals]; omega
      rw [e, ih k (by simpa using hk)]
      simp
/-- they lie there, one behind the other -/
def InpRow (w : World) (a : Option Addr) (l : List Inp) : Prop := 0 < l.length → ∃ b o, a = some ⟨b, o, none⟩ ∧ b < w.heap.size ∧ ∀ k (hk : k < l.length), w.rangeAt b (o + k * 4) (l[k]).vals
theorem InpRow.own {w : World} {base : Nat} {a : Option Addr} {n c : Nat} {l : List Inp} (h : w.ownsRow base 34 4 (.slice a n c) n (l.flatMap Inp.vals)) (hn : l.length = n) : InpRow w a l := by
  intro h0
  obtain ⟨_, ⟨h1, h2⟩ | ⟨g, cap, cur, h1, _, hg, hn2, hcm, hcs, ht⟩⟩ := h
  · cases h1; omega
  · cases h1
    refine ⟨g, 0, rfl, blk_lt hg, fun k hk j v hv => ?_⟩
    have hj : j < 4 := by have := (List.getElem?_eq_some_iff.1 hv).1; simpa [Inp.vals] using this
    rw [blk_cell hg, Nat.zero_add]
    rw [← Inp.at_ l k j hj hk, ← ht, List.getElem?_take_of_lt (by omega)] at hv
    rw [← Array.getElem?_toList]
    exact hv
theorem InpRow.turned {w w' : World} {a : Option Addr} {l : List Inp} (h : InpRow w a l) (hb : Below w.heap.size w w') : InpRow w' a l := fun h0 => by
  obtain ⟨b, o, h1, h2, h3⟩ := h h0
  exact ⟨b, o, h1, Nat.lt_of_lt_of_le h2 hb.size, fun k hk j v hv => (hb.cell (p := ⟨b, o + k * 4 + j, none⟩) h2).trans (h3 k hk j v hv)⟩
theorem Inp.eq_self (a0 : Int) (a1 : Int) (a2 : Int) (a3 : Int) (w : World) : (Op.equalIn 10000 34 (.agg #[.int .i64 a0, .int .i64 a1, .int .i64 a2, .int .i64 a3]) (.agg #[.int .i64 a0, .int .i64 a1, .int .i64 a2, .int .i64 a3])).run Tryd.prog w = .ok true w := by
  go_simp
theorem Inp.base2 (w : World) (a b : Obj) : Below w.heap.size w ((w.alloc a).alloc b) := ((Below.refl _ _).alloc (Nat.le_refl _) _).alloc (by simp) _
set_option maxHeartbeats 2000000 in
theorem Inp.eq1 (a : Inp) (w : World) : Calls Tryd.prog 20 #[.agg #[.int .i64 a.lines, .int .i64 a.rx, .int .i64 a.delay, .int .i64 a.pick], .agg #[.int .i64 a.lines, .int .i64 a.rx, .int .i64 a.delay, .int .i64 a.pick]] w fun e w' => e = .returned (.bool true) ∧ Below w.heap.size w w' := by
  have he := Inp.eq_self a.lines a.rx a.delay a.pick
  have hw : Hid (∀ a b, Below w.heap.size w ((w.alloc a).alloc b)) := fun a b => Inp.base2 w a b
  go_enter Tryd.func20, Tryd.ntmps20
  go_wp2
  go_ret
  exact ⟨rfl, hw.out _ _⟩
set_option maxHeartbeats 4000000 in
theorem Inp.same (a1 a2 : Option Addr) (l : List Inp) (m c1 c2 : Nat) (hlm : l.length = m) (w : World) (hm : (m : Int) ≤ 9223372036854775807) (h1 : InpRow w a1 l) (h2 : InpRow w a2 l) :
    Calls Tryd.prog 19 #[.slice a1 m c1, .slice a2 m c2, .func (.func 20) #[] #[]] w fun e w' => e = .returned (.bool true) ∧ Below w.heap.size w w' := by
  have H1 := Lib.hid h1
  have H2 := Lib.hid h2
  have HLM := Lib.hid hlm
  clear h1 h2 hlm
  go_enter Tryd.func19, Tryd.ntmps19
  go_wp2_with fail
  go_loopw [7] (fun i wr => ∃ k : Nat, (k : Int) ≤ m ∧ i = .int .i64 k ∧ Below w.heap.size w wr) (fun i _ => m - (intOf i).toNat)
  case atStart => exact ⟨0, by omega, rfl, Below.refl _ _⟩
  case round =>
    obtain ⟨k, hk, rfl, hb⟩ := hrel
    have HB := Lib.hid hb
    clear hb
    by_cases hlt : (k : Int) < m
    · clear hk
      obtain ⟨b1, o1, rfl, l1, hc1⟩ := H1.out (by have := HLM.out; omega)
      obtain ⟨b2, o2, rfl, l2, hc2⟩ := H2.out (by have := HLM.out; omega)
      have hkl : k < l.length := by have := HLM.out; omega
      have e1 : ∀ W, Below w.heap.size w W → W.rangeAt b1 (o1 + k * 4) (l[k]).vals := fun W hb j v hv => (hb.cell (p := ⟨b1, o1 + k * 4 + j, none⟩) l1).trans (hc1 k hkl j v hv)
      have e2 : ∀ W, Below w.heap.size w W → W.rangeAt b2 (o2 + k * 4) (l[k]).vals := fun W hb j v hv => (hb.cell (p := ⟨b2, o2 + k * 4 + j, none⟩) l2).trans (hc2 k hkl j v hv)
      generalize l[k] = x at e1 e2
      have E1 := Lib.hid e1
      have E2 := Lib.hid e2
      clear hc1 hc2 e1 e2 hkl l1 l2
      go_wp2_with fail
      refine wp_region_held_drew (S := fun wq => wq.rangeAt b1 (o1 + k * 4) x.vals ∧ wq.rangeAt b2 (o2 + k * 4) x.vals) (by kernel_rfl) ⟨E1.out _ HB.out.drew, E2.out _ HB.out.drew⟩ (fun hH => ?_)
      refine wpAnyH_take (i := 0) (oi := ⟨some 19, _, _, _, _, _⟩) (v := ?_) rfl (by kernel_rfl) (by kernel_rfl) (by kernel_rfl) (fun _ _ _ h => h) (Or.inl ⟨by kernel_rfl, ?_⟩) hH ?_
      rotate_left 1
      · intro wq hq; obtain ⟨hq1, hq2⟩ := hq; have b10 : wq.cell? ⟨b1, o1 + k * 4, none⟩ = some (.int .i64 x.lines) := hq1 0 _ rfl; have b11 : wq.cell? ⟨b1, o1 + k * 4 + 1, none⟩ = some (.int .i64 x.rx) := hq1 1 _ rfl; have b12 : wq.cell? ⟨b1, o1 + k * 4 + 1 + 1, none⟩ = some (.int .i64 x.delay) := hq1 2 _ rfl; have b13 : wq.cell? ⟨b1, o1 + k * 4 + 1 + 1 + 1, none⟩ = some (.int .i64 x.pick) := hq1 3 _ rfl; have b20 : wq.cell? ⟨b2, o2 + k * 4, none⟩ = some (.int .i64 x.lines) := hq2 0 _ rfl; have b21 : wq.cell? ⟨b2, o2 + k * 4 + 1, none⟩ = some (.int .i64 x.rx) := hq2 1 _ rfl; have b22 : wq.cell? ⟨b2, o2 + k * 4 + 1 + 1, none⟩ = some (.int .i64 x.delay) := hq2 2 _ rfl; have b23 : wq.cell? ⟨b2, o2 + k * 4 + 1 + 1 + 1, none⟩ = some (.int .i64 x.pick) := hq2 3 _ rfl; clear hq1 hq2; first | (go_simp; done) | (go_simp; with_reducible rfl)
      simp only [Act.put, List.setIfInBounds_toArray, List.set_cons_zero, List.set_cons_succ]
      refine wpAnyH_take (i := 1) (oi := ⟨some 20, _, _, _, _, _⟩) (v := ?_) rfl (by kernel_rfl) (by kernel_rfl) (by kernel_rfl) (fun _ _ _ h => h) (Or.inl ⟨by kernel_rfl, ?_⟩) hH ?_
      rotate_left 1
      · intro wq hq; obtain ⟨hq1, hq2⟩ := hq; have b10 : wq.cell? ⟨b1, o1 + k * 4, none⟩ = some (.int .i64 x.lines) := hq1 0 _ rfl; have b11 : wq.cell? ⟨b1, o1 + k * 4 + 1, none⟩ = some (.int .i64 x.rx) := hq1 1 _ rfl; have b12 : wq.cell? ⟨b1, o1 + k * 4 + 1 + 1, none⟩ = some (.int .i64 x.delay) := hq1 2 _ rfl; have b13 : wq.cell? ⟨b1, o1 + k * 4 + 1 + 1 + 1, none⟩ = some (.int .i64 x.pick) := hq1 3 _ rfl; have b20 : wq.cell? ⟨b2, o2 + k * 4, none⟩ = some (.int .i64 x.lines) := hq2 0 _ rfl; have b21 : wq.cell? ⟨b2, o2 + k * 4 + 1, none⟩ = some (.int .i64 x.rx) := hq2 1 _ rfl; have b22 : wq.cell? ⟨b2, o2 + k * 4 + 1 + 1, none⟩ = some (.int .i64 x.delay) := hq2 2 _ rfl; have b23 : wq.cell? ⟨b2, o2 + k * 4 + 1 + 1 + 1, none⟩ = some (.int .i64 x.pick) := hq2 3 _ rfl; clear hq1 hq2; first | (go_simp; done) | (go_simp; with_reducible rfl)
      simp only [Act.put, List.setIfInBounds_toArray, List.set_cons_zero, List.set_cons_succ]
      refine wpAnyH_take (i := 2) (oi := ⟨some 21, _, _, _, _, _⟩) (v := ?_) rfl (by kernel_rfl) (by kernel_rfl) (by kernel_rfl) (fun _ _ _ h => h) (Or.inl ⟨by kernel_rfl, ?_⟩) hH ?_
      rotate_left 1
      · intro wq hq; obtain ⟨hq1, hq2⟩ := hq; have b10 : wq.cell? ⟨b1, o1 + k * 4, none⟩ = some (.int .i64 x.lines) := hq1 0 _ rfl; have b11 : wq.cell? ⟨b1, o1 + k * 4 + 1, none⟩ = some (.int .i64 x.rx) := hq1 1 _ rfl; have b12 : wq.cell? ⟨b1, o1 + k * 4 + 1 + 1, none⟩ = some (.int .i64 x.delay) := hq1 2 _ rfl; have b13 : wq.cell? ⟨b1, o1 + k * 4 + 1 + 1 + 1, none⟩ = some (.int .i64 x.pick) := hq1 3 _ rfl; have b20 : wq.cell? ⟨b2, o2 + k * 4, none⟩ = some (.int .i64 x.lines) := hq2 0 _ rfl; have b21 : wq.cell? ⟨b2, o2 + k * 4 + 1, none⟩ = some (.int .i64 x.rx) := hq2 1 _ rfl; have b22 : wq.cell? ⟨b2, o2 + k * 4 + 1 + 1, none⟩ = some (.int .i64 x.delay) := hq2 2 _ rfl; have b23 : wq.cell? ⟨b2, o2 + k * 4 + 1 + 1 + 1, none⟩ = some (.int .i64 x.pick) := hq2 3 _ rfl; clear hq1 hq2; first | (go_simp; done) | (go_simp; with_reducible rfl)
      simp only [Act.put, List.setIfInBounds_toArray, List.set_cons_zero, List.set_cons_succ]
      refine wpAnyH_take (i := 3) (oi := ⟨some 22, _, _, _, _, _⟩) (v := ?_) rfl (by kernel_rfl) (by kernel_rfl) (by kernel_rfl) (fun _ _ _ h => h) (Or.inl ⟨by kernel_rfl, ?_⟩) hH ?_
      rotate_left 1
      · intro wq hq; obtain ⟨hq1, hq2⟩ := hq; have b10 : wq.cell? ⟨b1, o1 + k * 4, none⟩ = some (.int .i64 x.lines) := hq1 0 _ rfl; have b11 : wq.cell? ⟨b1, o1 + k * 4 + 1, none⟩ = some (.int .i64 x.rx) := hq1 1 _ rfl; have b12 : wq.cell? ⟨b1, o1 + k * 4 + 1 + 1, none⟩ = some (.int .i64 x.delay) := hq1 2 _ rfl; have b13 : wq.cell? ⟨b1, o1 + k * 4 + 1 + 1 + 1, none⟩ = some (.int .i64 x.pick) := hq1 3 _ rfl; have b20 : wq.cell? ⟨b2, o2 + k * 4, none⟩ = some (.int .i64 x.lines) := hq2 0 _ rfl; have b21 : wq.cell? ⟨b2, o2 + k * 4 + 1, none⟩ = some (.int .i64 x.rx) := hq2 1 _ rfl; have b22 : wq.cell? ⟨b2, o2 + k * 4 + 1 + 1, none⟩ = some (.int .i64 x.delay) := hq2 2 _ rfl; have b23 : wq.cell? ⟨b2, o2 + k * 4 + 1 + 1 + 1, none⟩ = some (.int .i64 x.pick) := hq2 3 _ rfl; clear hq1 hq2; first | (go_simp; done) | (go_simp; with_reducible rfl)
      simp only [Act.put, List.setIfInBounds_toArray, List.set_cons_zero, List.set_cons_succ]
      refine wpAnyH_take (i := 4) (oi := ⟨some 23, _, _, _, _, _⟩) (v := ?_) rfl (by kernel_rfl) (by kernel_rfl) (by kernel_rfl) (fun _ _ _ h => h) (Or.inl ⟨by kernel_rfl, ?_⟩) hH ?_
      rotate_left 1
      · intro wq hq; obtain ⟨hq1, hq2⟩ := hq; have b10 : wq.cell? ⟨b1, o1 + k * 4, none⟩ = some (.int .i64 x.lines) := hq1 0 _ rfl; have b11 : wq.cell? ⟨b1, o1 + k * 4 + 1, none⟩ = some (.int .i64 x.rx) := hq1 1 _ rfl; have b12 : wq.cell? ⟨b1, o1 + k * 4 + 1 + 1, none⟩ = some (.int .i64 x.delay) := hq1 2 _ rfl; have b13 : wq.cell? ⟨b1, o1 + k * 4 + 1 + 1 + 1, none⟩ = some (.int .i64 x.pick) := hq1 3 _ rfl; have b20 : wq.cell? ⟨b2, o2 + k * 4, none⟩ = some (.int .i64 x.lines) := hq2 0 _ rfl; have b21 : wq.cell? ⟨b2, o2 + k * 4 + 1, none⟩ = some (.int .i64 x.rx) := hq2 1 _ rfl; have b22 : wq.cell? ⟨b2, o2 + k * 4 + 1 + 1, none⟩ = some (.int .i64 x.delay) := hq2 2 _ rfl; have b23 : wq.cell? ⟨b2, o2 + k * 4 + 1 + 1 + 1, none⟩ = some (.int .i64 x.pick) := hq2 3 _ rfl; clear hq1 hq2; first | (go_simp; done) | (go_simp; with_reducible rfl)
      simp only [Act.put, List.setIfInBounds_toArray, List.set_cons_zero, List.set_cons_succ]
      refine wpAnyH_take (i := 5) (oi := ⟨some 24, _, _, _, _, _⟩) (v := ?_) rfl (by kernel_rfl) (by kernel_rfl) (by kernel_rfl) (fun _ _ _ h => h) (Or.inl ⟨by kernel_rfl, ?_⟩) hH ?_
      rotate_left 1
      · intro wq hq; obtain ⟨hq1, hq2⟩ := hq; have b10 : wq.cell? ⟨b1, o1 + k * 4, none⟩ = some (.int .i64 x.lines) := hq1 0 _ rfl; have b11 : wq.cell? ⟨b1, o1 + k * 4 + 1, none⟩ = some (.int .i64 x.rx) := hq1 1 _ rfl; have b12 : wq.cell? ⟨b1, o1 + k * 4 + 1 + 1, none⟩ = some (.int .i64 x.delay) := hq1 2 _ rfl; have b13 : wq.cell? ⟨b1, o1 + k * 4 + 1 + 1 + 1, none⟩ = some (.int .i64 x.pick) := hq1 3 _ rfl; have b20 : wq.cell? ⟨b2, o2 + k * 4, none⟩ = some (.int .i64 x.lines) := hq2 0 _ rfl; have b21 : wq.cell? ⟨b2, o2 + k * 4 + 1, none⟩ = some (.int .i64 x.rx) := hq2 1 _ rfl; have b22 : wq.cell? ⟨b2, o2 + k * 4 + 1 + 1, none⟩ = some (.int .i64 x.delay) := hq2 2 _ rfl; have b23 : wq.cell? ⟨b2, o2 + k * 4 + 1 + 1 + 1, none⟩ = some (.int .i64 x.pick) := hq2 3 _ rfl; clear hq1 hq2; first | (go_simp; done) | (go_simp; with_reducible rfl)
      simp only [Act.put, List.setIfInBounds_toArray, List.set_cons_zero, List.set_cons_succ]
      refine wpAnyH_take (i := 6) (oi := ⟨some 25, _, _, _, _, _⟩) (v := ?_) rfl (by kernel_rfl) (by kernel_rfl) (by kernel_rfl) (fun _ _ _ h => h) (Or.inl ⟨by kernel_rfl, ?_⟩) hH ?_
      rotate_left 1
      · intro wq hq; obtain ⟨hq1, hq2⟩ := hq; have b10 : wq.cell? ⟨b1, o1 + k * 4, none⟩ = some (.int .i64 x.lines) := hq1 0 _ rfl; have b11 : wq.cell? ⟨b1, o1 + k * 4 + 1, none⟩ = some (.int .i64 x.rx) := hq1 1 _ rfl; have b12 : wq.cell? ⟨b1, o1 + k * 4 + 1 + 1, none⟩ = some (.int .i64 x.delay) := hq1 2 _ rfl; have b13 : wq.cell? ⟨b1, o1 + k * 4 + 1 + 1 + 1, none⟩ = some (.int .i64 x.pick) := hq1 3 _ rfl; have b20 : wq.cell? ⟨b2, o2 + k * 4, none⟩ = some (.int .i64 x.lines) := hq2 0 _ rfl; have b21 : wq.cell? ⟨b2, o2 + k * 4 + 1, none⟩ = some (.int .i64 x.rx) := hq2 1 _ rfl; have b22 : wq.cell? ⟨b2, o2 + k * 4 + 1 + 1, none⟩ = some (.int .i64 x.delay) := hq2 2 _ rfl; have b23 : wq.cell? ⟨b2, o2 + k * 4 + 1 + 1 + 1, none⟩ = some (.int .i64 x.pick) := hq2 3 _ rfl; clear hq1 hq2; first | (go_simp; done) | (go_simp; with_reducible rfl)
      simp only [Act.put, List.setIfInBounds_toArray, List.set_cons_zero, List.set_cons_succ]
      refine wpAnyH_take (i := 7) (oi := ⟨some 26, _, _, _, _, _⟩) (v := ?_) rfl (by kernel_rfl) (by kernel_rfl) (by kernel_rfl) (fun _ _ _ h => h) (Or.inl ⟨by kernel_rfl, ?_⟩) hH ?_
      rotate_left 1
      · intro wq hq; obtain ⟨hq1, hq2⟩ := hq; have b10 : wq.cell? ⟨b1, o1 + k * 4, none⟩ = some (.int .i64 x.lines) := hq1 0 _ rfl; have b11 : wq.cell? ⟨b1, o1 + k * 4 + 1, none⟩ = some (.int .i64 x.rx) := hq1 1 _ rfl; have b12 : wq.cell? ⟨b1, o1 + k * 4 + 1 + 1, none⟩ = some (.int .i64 x.delay) := hq1 2 _ rfl; have b13 : wq.cell? ⟨b1, o1 + k * 4 + 1 + 1 + 1, none⟩ = some (.int .i64 x.pick) := hq1 3 _ rfl; have b20 : wq.cell? ⟨b2, o2 + k * 4, none⟩ = some (.int .i64 x.lines) := hq2 0 _ rfl; have b21 : wq.cell? ⟨b2, o2 + k * 4 + 1, none⟩ = some (.int .i64 x.rx) := hq2 1 _ rfl; have b22 : wq.cell? ⟨b2, o2 + k * 4 + 1 + 1, none⟩ = some (.int .i64 x.delay) := hq2 2 _ rfl; have b23 : wq.cell? ⟨b2, o2 + k * 4 + 1 + 1 + 1, none⟩ = some (.int .i64 x.pick) := hq2 3 _ rfl; clear hq1 hq2; first | (go_simp; done) | (go_simp; with_reducible rfl)
      simp only [Act.put, List.setIfInBounds_toArray, List.set_cons_zero, List.set_cons_succ]
      refine wpAnyH_take (i := 8) (oi := ⟨some 27, _, _, _, _, _⟩) (v := ?_) rfl (by kernel_rfl) (by kernel_rfl) (by kernel_rfl) (fun _ _ _ h => h) (Or.inl ⟨by kernel_rfl, ?_⟩) hH ?_
      rotate_left 1
      · intro wq hq; obtain ⟨hq1, hq2⟩ := hq; have b10 : wq.cell? ⟨b1, o1 + k * 4, none⟩ = some (.int .i64 x.lines) := hq1 0 _ rfl; have b11 : wq.cell? ⟨b1, o1 + k * 4 + 1, none⟩ = some (.int .i64 x.rx) := hq1 1 _ rfl; have b12 : wq.cell? ⟨b1, o1 + k * 4 + 1 + 1, none⟩ = some (.int .i64 x.delay) := hq1 2 _ rfl; have b13 : wq.cell? ⟨b1, o1 + k * 4 + 1 + 1 + 1, none⟩ = some (.int .i64 x.pick) := hq1 3 _ rfl; have b20 : wq.cell? ⟨b2, o2 + k * 4, none⟩ = some (.int .i64 x.lines) := hq2 0 _ rfl; have b21 : wq.cell? ⟨b2, o2 + k * 4 + 1, none⟩ = some (.int .i64 x.rx) := hq2 1 _ rfl; have b22 : wq.cell? ⟨b2, o2 + k * 4 + 1 + 1, none⟩ = some (.int .i64 x.delay) := hq2 2 _ rfl; have b23 : wq.cell? ⟨b2, o2 + k * 4 + 1 + 1 + 1, none⟩ = some (.int .i64 x.pick) := hq2 3 _ rfl; clear hq1 hq2; first | (go_simp; done) | (go_simp; with_reducible rfl)
      simp only [Act.put, List.setIfInBounds_toArray, List.set_cons_zero, List.set_cons_succ]
      refine wpAnyH_ready (rs := [9]) (by kernel_rfl) (by simp) (AllReadyH.cons (o := ⟨some 28, _, _, _, _, _⟩) rfl (fun K hK => ?_) AllReadyH.nil)
      go_simp
      refine (Inp.eq1 x _).mono ?_
      rintro e w1 ⟨rfl, hb⟩
      have HB2 : Hid (Below w.heap.size w w1) := below_then HB.out.drew hb HB.out.size
      clear hb
      go_wp2_with fail
      refine hK.out _ _ ⟨E1.out _ HB2.out, E2.out _ HB2.out⟩ (fun hH => ?_)
      clear hK K
      try simp only [Act.put, List.setIfInBounds_toArray, List.set_cons_zero, List.set_cons_succ]
      refine wpAnyH_take (i := 10) (oi := ⟨some 29, _, _, _, _, _⟩) (v := ?_) rfl (by kernel_rfl) (by kernel_rfl) (by kernel_rfl) (fun _ _ _ h => h) (Or.inl ⟨by kernel_rfl, ?_⟩) hH ?_
      rotate_left 1
      · intro wq hq; obtain ⟨hq1, hq2⟩ := hq; have b10 : wq.cell? ⟨b1, o1 + k * 4, none⟩ = some (.int .i64 x.lines) := hq1 0 _ rfl; have b11 : wq.cell? ⟨b1, o1 + k * 4 + 1, none⟩ = some (.int .i64 x.rx) := hq1 1 _ rfl; have b12 : wq.cell? ⟨b1, o1 + k * 4 + 1 + 1, none⟩ = some (.int .i64 x.delay) := hq1 2 _ rfl; have b13 : wq.cell? ⟨b1, o1 + k * 4 + 1 + 1 + 1, none⟩ = some (.int .i64 x.pick) := hq1 3 _ rfl; have b20 : wq.cell? ⟨b2, o2 + k * 4, none⟩ = some (.int .i64 x.lines) := hq2 0 _ rfl; have b21 : wq.cell? ⟨b2, o2 + k * 4 + 1, none⟩ = some (.int .i64 x.rx) := hq2 1 _ rfl; have b22 : wq.cell? ⟨b2, o2 + k * 4 + 1 + 1, none⟩ = some (.int .i64 x.delay) := hq2 2 _ rfl; have b23 : wq.cell? ⟨b2, o2 + k * 4 + 1 + 1 + 1, none⟩ = some (.int .i64 x.pick) := hq2 3 _ rfl; clear hq1 hq2; first | (go_simp; done) | (go_simp; with_reducible rfl)
      simp only [Act.put, List.setIfInBounds_toArray, List.set_cons_zero, List.set_cons_succ]
      refine wpAnyH_done (by kernel_rfl) ?_ _
      clear hH
      go_wp2_with fail
      exact ⟨⟨k + 1, by omega, by rw [Int.natCast_succ], HB2.out⟩, by simp [intOf]; omega⟩
    · obtain rfl : k = m := by omega
      go_wp2_with fail
      go_ret
      exact ⟨rfl, HB.out⟩
set_option maxHeartbeats 2000000 in
theorem Inp.plain (a1 a2 : Option Addr) (l : List Inp) (m c1 c2 : Nat) (hlm : l.length = m) (w : World) (hm : (m : Int) ≤ 9223372036854775807) (h1 : InpRow w a1 l) (h2 : InpRow w a2 l) :
    Calls Tryd.prog 10 #[.slice a1 m c1, .slice a2 m c2] w fun e w' => e = .returned (.bool true) ∧ Below w.heap.size w w' := by
  have H := Lib.hid (Inp.same a1 a2 l m c1 c2 hlm w hm h1 h2)
  clear h1 h2 hlm
  go_enter Tryd.func10, Tryd.ntmps10
  go_wp2_with fail
  refine H.out.mono ?_
  rintro e w1 ⟨rfl, hb⟩
  have HB := Lib.hid hb
  clear hb
  go_wp2_with fail
  go_ret
  exact ⟨rfl, HB.out⟩
end Go.Proofs.YtoiffpoffnlebaaDoor
end
section
set_option linter.unusedVariables false
set_option linter.unusedSimpArgs false
namespace Go.Proofs.YtoiffpoffnlebaaDoor
open Go.RowKit
/-- append of one struct that was just laid out -/
theorem wpList_app_new {P : Program} {w0 : World} {T : TypeId} {vs : List Value} {ops : Array Oper} {rest : List Oper} {o : Oper} {a : Act} {Q : Exit → Act → World → Prop} (hgd : o.guard = none) (s x : Operand) (t : TypeId)
    (ho : o.op = .call { callee := .builtin .append, args := #[s, x], argTypes := #[t, t] })
    (base : Nat) (e : TypeId) (z : Value) (size bytes : Nat) (ht : P.underlying t = some (.slice e)) (hinfo : (P.info? e).map (fun i => (i.zero, i.size, i.bytes)) = some (some z, size, bytes)) (hzs : z.cells.size = size) (hsz : 0 < size)
    (v : Value) (n : Nat) (xs : List Value) (hs : a.eval s = v) (hown : w0.ownsRow base e size v n xs)
    (hx : a.eval x = .slice (some ⟨w0.heap.size, 0, none⟩) 1 1) (hl : vs.length = size) (h1 : ∀ u ∈ vs, u.oneCell' = true)
    (h63 : n + 1 ≤ maxLen) (hbytes : (n + 1) * bytes ≤ 140737488355328) (hbase : base ≤ w0.heap.size)
    (h : ∀ v' w', w'.ownsRow base e size v' (n + 1) (xs ++ vs) → (w0.alloc (.cells vs.toArray T)).grownBy w' v.ownBlock → wpList P ops Q rest (a.put o.dst v') w') : wpList P ops Q (o :: rest) a (w0.alloc (.cells vs.toArray T)) := by
  obtain ⟨i, hi, hzz⟩ := Option.map_eq_some_iff.1 hinfo
  simp only [Prod.mk.injEq] at hzz
  obtain ⟨hz, hsize, hby⟩ := hzz
  refine wpList_append_own (w := w0.alloc (.cells vs.toArray T)) hgd s x t ho base e i z size bytes ht hi hz hsize hby hzs hsz v n xs hs (hown.alloc _) ⟨w0.heap.size, 0, none⟩ 1 1 vs hx (by omega) (fun j u hj => ?_) h1 h63 hbytes (by simp; omega) (fun v' w' h2 h3 _ => h v' w' h2 h3)
  rw [addr_add, blk_cell (blk_alloc _ _)]
  simpa using hj
/-- the same, its place told apart -/
theorem wpList_app_newQ {P : Program} {w0 : World} {T : TypeId} {vs : List Value} {ops : Array Oper} {rest : List Oper} {o : Oper} {a : Act} {Q : Exit → Act → World → Prop} (hgd : o.guard = none) (s x : Operand) (t : TypeId)
    (ho : o.op = .call { callee := .builtin .append, args := #[s, x], argTypes := #[t, t] })
    (base : Nat) (e : TypeId) (z : Value) (size bytes : Nat) (ht : P.underlying t = some (.slice e)) (hinfo : (P.info? e).map (fun i => (i.zero, i.size, i.bytes)) = some (some z, size, bytes)) (hzs : z.cells.size = size) (hsz : 0 < size)
    (v : Value) (n : Nat) (xs : List Value) (hs : a.eval s = v) (hown : w0.ownsRow base e size v n xs)
    (q : Nat) (hq : q = w0.heap.size) (hx : a.eval x = .slice (some ⟨q, 0, none⟩) 1 1) (hl : vs.length = size) (h1 : ∀ u ∈ vs, u.oneCell' = true)
    (h63 : n + 1 ≤ maxLen) (hbytes : (n + 1) * bytes ≤ 140737488355328) (hbase : base ≤ w0.heap.size)
    (h : ∀ v' w', w'.ownsRow base e size v' (n + 1) (xs ++ vs) → (w0.alloc (.cells vs.toArray T)).grownBy w' v.ownBlock → wpList P ops Q rest (a.put o.dst v') w') : wpList P ops Q (o :: rest) a (w0.alloc (.cells vs.toArray T)) := by
  subst hq
  obtain ⟨i, hi, hzz⟩ := Option.map_eq_some_iff.1 hinfo
  simp only [Prod.mk.injEq] at hzz
  obtain ⟨hz, hsize, hby⟩ := hzz
  refine wpList_append_own (w := w0.alloc (.cells vs.toArray T)) hgd s x t ho base e i z size bytes ht hi hz hsize hby hzs hsz v n xs hs (hown.alloc _) ⟨w0.heap.size, 0, none⟩ 1 1 vs hx (by omega) (fun j u hj => ?_) h1 h63 hbytes (by simp; omega) (fun v' w' h2 h3 _ => h v' w' h2 h3)
  rw [addr_add, blk_cell (blk_alloc _ _)]
  simpa using hj
theorem A_infoInp : (Tryd.prog.info? 34).map (fun i => (i.zero, i.size, i.bytes)) = some (some (.agg #[.int .i64 0, .int .i64 0, .int .i64 0, .int .i64 0]), 4, 32) := by kernel_rfl
def imgLen (l : List Int) : Nat := min (min (byteAt l 10 + 256 * byteAt l 11) 8192) (l.length - 12)
def imgOf (l : List Int) : List Int := (l.drop 12).take (imgLen l)
def inpAt (l : List Int) (j : Nat) : Inp :=
  let p := 12 + imgLen l + 3 * j
  ⟨(byteAt l p &&& 126 : Nat), if byteAt l p % 2 = 0 then -1 else byteAt l (p + 1), byteAt l (p + 2) % 16 * 2, byteAt l (p + 2) / 16⟩
def inpN (l : List Int) : Nat := min 4096 ((l.length - (12 + imgLen l)) / 3)
def inpTo (l : List Int) (n : Nat) : List Inp := (List.range n).map (inpAt l)
theorem inpTo_len (l : List Int) (n : Nat) : (inpTo l n).length = n := by simp [inpTo]
theorem inpTo_snoc (l : List Int) (n : Nat) : (inpTo l (n + 1)).flatMap Inp.vals = (inpTo l n).flatMap Inp.vals ++ (inpAt l n).vals := by simp [inpTo, List.range_succ]
def ScrIs (w : World) (l : List Int) (e : Ending) (w' : World) : Prop := ∃ img inp, e = .returned (.tuple #[.agg #[.int .i64 (4 + (byteAt l 0 : Int) % 13), .int .i64 ((byteAt l 1 : Int) % 33), .int .u64 (wordN (fun i => byteAt l (2 + i)) 8 : Nat)], img, inp]) ∧
  w'.ownsRow w.heap.size 5 1 img (imgLen l) ((imgOf l).map (Value.int .u8)) ∧ w'.ownsRow w.heap.size 34 4 inp (inpN l) ((inpTo l (inpN l)).flatMap Inp.vals) ∧ Below w.heap.size w w'
end Go.Proofs.YtoiffpoffnlebaaDoor
end
section
set_option linter.unusedVariables false
set_option linter.unusedSimpArgs false
namespace Go.Proofs.YtoiffpoffnlebaaDoor
open Go.RowKit
set_option maxRecDepth 100000
theorem Rd.eq {w : World} {b g m q q' : Nat} (h : Rd w b g m q) (e : q = q' ∨ m ≤ q ∧ m ≤ q') : Rd w b g m q' := by
  rcases e with rfl | ⟨h1, h2⟩
  · exact h
  · obtain ⟨p, c, k1, k2, k3, k4⟩ := h
    refine ⟨p, c, ?_, fun e => by omega, by omega, k4⟩
    rw [show m - q' = m - q by omega]; exact k1
theorem Only.turned {b : Nat} {a w w' : World} (h : Only b w w') (ht : Turned (fun k => k = b) a w) : Turned (fun k => k = b) a w' :=
  ⟨h.os.trans ht.os, h.tape.trans ht.tape, h.output.trans ht.output, by rw [h.size]; exact ht.size, fun g hg hn => (h.other g hn).trans (ht.block g hg hn)⟩
theorem Only.own {b : Nat} {w w' : World} (h : Only b w w') {base : Nat} (hb : b < base) {e : TypeId} {size : Nat} {v : Value} {n : Nat} {xs : List Value} (ho : w.ownsRow base e size v n xs) : w'.ownsRow base e size v n xs :=
  ⟨ho.1, ho.2.imp id fun ⟨g, cap, cur, h1, h2, h3, h4⟩ => ⟨g, cap, cur, h1, h2, (h.other g (by omega)).trans h3, h4⟩⟩
theorem own_block {w : World} {base : Nat} {e : TypeId} {size : Nat} {v : Value} {n : Nat} {xs : List Value} (h : w.ownsRow base e size v n xs) {k : Nat} (hk : v.ownBlock = some k) : base ≤ k := by
  rcases h.2 with ⟨h1, _⟩ | ⟨g, cap, cur, h1, h2, _⟩
  · rw [h1] at hk; cases hk
  · rw [h1] at hk; cases hk; exact h2
theorem own_turned {S : Nat → Prop} {a b : World} (ht : Turned S a b) {base : Nat} (hS : ∀ k, S k → k < base) {e : TypeId} {size : Nat} {v : Value} {n : Nat} {xs : List Value} (h : a.ownsRow base e size v n xs) : b.ownsRow base e size v n xs :=
  ⟨h.1, h.2.imp id fun ⟨g, cap, cur, h1, h2, h3, h4⟩ => ⟨g, cap, cur, h1, h2, (ht.block g (blk_lt h3) (fun e => by have := hS g e; omega)).trans h3, h4⟩⟩
theorem own_set3 {w : World} {B base : Nat} (hB : B < base) (u0 u1 u2 : Value) {e : TypeId} {size : Nat} {v : Value} {n : Nat} {xs : List Value} (h : w.ownsRow base e size v n xs) : (((w.setCell ⟨B, 0, none⟩ u0).setCell ⟨B, 1, none⟩ u1).setCell ⟨B, 2, none⟩ u2).ownsRow base e size v n xs :=
  ownsRow_setCell_below (ownsRow_setCell_below (ownsRow_setCell_below h hB _) hB _) hB _
theorem below_set3 {a w : World} {B : Nat} (h : Below B a w) (u0 u1 u2 : Value) : Below B a (((w.setCell ⟨B, 0, none⟩ u0).setCell ⟨B, 1, none⟩ u1).setCell ⟨B, 2, none⟩ u2) :=
  ((h.setCell (Nat.le_refl _) _).setCell (Nat.le_refl _) _).setCell (Nat.le_refl _) _
def slLen : Value → Nat
  | .slice _ n _ => n
  | _ => 0
theorem own_slice {w : World} {base : Nat} {e : TypeId} {size : Nat} {v : Value} {n : Nat} {xs : List Value} (h : w.ownsRow base e size v n xs) : ∃ ad c, v = .slice ad n c := by
  rcases h.2 with ⟨h1, h2⟩ | ⟨g, cap, cur, h, _⟩
  · exact ⟨_, _, by rw [h1, h2]⟩
  · exact ⟨_, _, h⟩
/-- behind the image -/
def ImgIs (w : World) (g m : Nat) (l : List Int) (v : Value) (wx : World) : Prop :=
  Rd wx (w.heap.size + 1) g m (12 + imgLen l) ∧ Src wx g m l ∧ Below w.heap.size w wx ∧ w.heap.size + 3 ≤ wx.heap.size ∧
  wx.heap[w.heap.size]? = some (.cells #[Value.int .i64 0, Value.int .i64 0, Value.int .u64 0] 26 (0, 0)) ∧
  wx.heap[w.heap.size + 2]? = some (.cells #[Value.int .i64 (4 + (byteAt l 0 : Int) % 13), Value.int .i64 ((byteAt l 1 : Int) % 33), Value.int .u64 (wordN (fun i => byteAt l (2 + i)) 8 : Nat)] 26 (0, 0)) ∧
  wx.ownsRow (w.heap.size + 3) 5 1 v (imgLen l) ((imgOf l).map (Value.int .u8))
theorem img_src {w : World} {g m : Nat} {l : List Int} (h : Src w g m l) (n p : Nat) (hn : min n (m - 12) = imgLen l) (hp : 12 < m → p = 12) : SrcIs w (some ⟨g, p, none⟩) (imgLen l) ((imgOf l).map (Value.int .u8)) := by
  have hb := h.isB' 12 p (imgLen l) (by omega) hp
  have e : (l.drop 12).take (imgLen l) = imgOf l := rfl
  rw [e] at hb
  refine ⟨by rw [List.length_map]; exact hb.hlen, .inr ⟨g, p, rfl, fun i hi => ?_⟩⟩
  rcases hb.cell with ⟨h0, _⟩ | ⟨b, o, h0, hc⟩
  · cases h0
  · cases h0
    rw [hc i hi]
    simp [List.getD, hb.hlen, hi]
theorem own_mono {w : World} {base base' : Nat} (hb : base' ≤ base) {e : TypeId} {size : Nat} {v : Value} {n : Nat} {xs : List Value} (h : w.ownsRow base e size v n xs) : w.ownsRow base' e size v n xs :=
  ⟨h.1, h.2.imp id fun ⟨g, cap, cur, h1, h2, h3⟩ => ⟨g, cap, cur, h1, Nat.le_trans hb h2, h3⟩⟩
/-- the end -/
theorem scr_end {w wL wr : World} {g m : Nat} {l : List Int} {u inp : Value} (hC : ImgIs w g m l u wL) (hT : Turned (fun k => k = w.heap.size + 1) wL wr) (hW : wr.ownsRow wL.heap.size 34 4 inp (inpN l) ((inpTo l (inpN l)).flatMap Inp.vals)) (u0 u1 u2 : Value) :
    ScrIs w l (.returned (.tuple #[.agg #[.int .i64 (4 + (byteAt l 0 : Int) % 13), .int .i64 ((byteAt l 1 : Int) % 33), .int .u64 (wordN (fun i => byteAt l (2 + i)) 8 : Nat)], u, inp])) (((wr.setCell ⟨w.heap.size, 0, none⟩ u0).setCell ⟨w.heap.size, 1, none⟩ u1).setCell ⟨w.heap.size, 2, none⟩ u2) := by
  have hz := hC.2.2.2.1
  refine ⟨u, inp, rfl, ?_, ?_, ?_⟩
  · exact own_mono (by omega) (own_set3 (B := w.heap.size) (by omega) _ _ _ (own_turned hT (fun k hk => by omega) hC.2.2.2.2.2.2))
  · exact own_mono (base := wL.heap.size) (by omega) (own_set3 (by omega) _ _ _ hW)
  · exact below_set3 (hC.2.2.1.trans (hT.below (by omega) (fun k hk => by omega))) _ _ _
set_option maxHeartbeats 8000000 in
theorem scr_decode (g m cp : Nat) (l : List Int) (w : World) (hs : Src w g m l) (hm : (m : Int) ≤ 140737488351232) (hcp : m ≤ cp) (hcpm : (cp : Int) ≤ 9223372036854775807) :
    Calls Tryd.prog 6 #[.slice (some ⟨g, 0, none⟩) m cp] w (ScrIs w l) := by
  have S := Lib.hid hs
  have hg := hs.lt
  clear hs
  go_enter Tryd.func6, Tryd.ntmps6
  go_wp2_with fail
  obtain ⟨w1, hw1⟩ : ∃ w1, w1 = (w.alloc (.cells #[Value.int .i64 0, Value.int .i64 0, Value.int .u64 0] 26)).alloc (.cells #[Value.slice (some ⟨g, 0, none⟩) m cp] 43) := ⟨_, rfl⟩
  have R1 : Rd w1 (w.heap.size + 1) g m 0 := by
    rw [hw1]
    refine ⟨0, cp, ?_, fun _ => rfl, by omega, by omega⟩
    unfold RdIs
    rw [Nat.sub_zero]
    have := blk_alloc (w.alloc (.cells #[Value.int .i64 0, Value.int .i64 0, Value.int .u64 0] 26)) (.cells #[Value.slice (some ⟨g, 0, none⟩) m cp] 43)
    simpa using this
  have B1 : Below w.heap.size w w1 := by rw [hw1]; exact ((Below.refl _ _).alloc (Nat.le_refl _) _).alloc (by simp) _
  have Z1 : w1.heap.size = w.heap.size + 2 := by rw [hw1]; simp
  have C1 : w1.heap[w.heap.size]? = some (.cells #[Value.int .i64 0, Value.int .i64 0, Value.int .u64 0] 26 (0, 0)) := by
    rw [hw1, blk_alloc_old _ _ _ (by simp)]; exact blk_alloc _ _
  rw [← hw1]
  clear hw1
  have hbg : w.heap.size + 1 ≠ g := by omega
  have S1 : Src w1 g m l := S.out.to (by omega) (B1.block g hg)
  have H1 := Lib.hid R1; have H2 := Lib.hid B1; have H3 := Lib.hid Z1; have H4 := Lib.hid C1; have H5 := Lib.hid S1
  clear R1 B1 Z1 C1 S1
  have R1 := H1; have B1 := H2; have Z1 := H3; have C1 := H4; have S1 := H5
  clear H1 H2 H3 H4 H5
  have hbd := S.out.bd
  have k0 : (byteAt l 0 : Int) < 256 := by have := byteAt_lt hbd 0; omega
  have k1 : (byteAt l 1 : Int) < 256 := by have := byteAt_lt hbd 1; omega
  have HB := Lib.hid hbd
  clear hbd
  refine (rd_byte _ _ _ _ _ _ S1.out hbg R1.out hm).mono ?_
  rintro e w2 ⟨rfl, hR, hO⟩
  have R2 := Lib.hid hR; have S2 := Lib.hid (hO.src S1.out hbg); have B2 := Lib.hid (hO.below B1.out (Nat.le_succ _)); have Z2 := Lib.hid (hO.size.trans Z1.out); have C2 := Lib.hid ((hO.other w.heap.size (Nat.ne_of_lt (Nat.lt_succ_self _))).trans C1.out)
  clear hR hO R1 S1 B1 Z1 C1 w1
  go_wp2_with fail
  refine (rd_byte _ _ _ _ _ _ S2.out hbg R2.out hm).mono ?_
  rintro e w3 ⟨rfl, hR, hO⟩
  have R3 := Lib.hid hR; have S3 := Lib.hid (hO.src S2.out hbg); have B3 := Lib.hid (hO.below B2.out (Nat.le_succ _)); have Z3 := Lib.hid (hO.size.trans Z2.out); have C3 := Lib.hid ((hO.other w.heap.size (Nat.ne_of_lt (Nat.lt_succ_self _))).trans C2.out)
  clear hR hO R2 S2 B2 Z2 C2 w2
  go_wp2_with fail
  refine (rd_numQ _ _ _ _ 8 _ _ S3.out hbg R3.out hm (by omega)).mono ?_
  rintro e w4 ⟨rfl, hR, hO⟩
  have R4 := Lib.hid hR; have S4 := Lib.hid (hO.src S3.out hbg); have B4 := Lib.hid (hO.below B3.out (Nat.le_succ _)); have Z4 := Lib.hid (hO.size.trans Z3.out); have C4 := Lib.hid ((hO.other w.heap.size (Nat.ne_of_lt (Nat.lt_succ_self _))).trans C3.out)
  clear hR hO R3 S3 B3 Z3 C3 w3
  go_upto_region 3 with fail
  obtain ⟨w5, hw5⟩ : ∃ w5, w5 = w4.alloc (.cells #[Value.int .i64 (4 + (byteAt l 0 : Int) % 13), Value.int .i64 ((byteAt l 1 : Int) % 33), Value.int .u64 (wordN (fun i => byteAt l (2 + i)) 8 : Nat)] 26) := ⟨_, rfl⟩
  have R5 : Hid (Rd w5 (w.heap.size + 1) g m (0 + 1 + 1 + 8)) := by
    obtain ⟨p, c, k1, k2⟩ := R4.out
    exact ⟨p, c, by rw [hw5]; exact (blk_alloc_old _ _ _ (by rw [Z4.out]; omega)).trans k1, k2⟩
  have S5 : Hid (Src w5 g m l) := by rw [hw5]; exact S4.out.to (by simp) (blk_alloc_old _ _ _ S4.out.lt)
  have B5 : Hid (Below w.heap.size w w5) := by rw [hw5]; exact B4.out.alloc B4.out.size _
  have Z5 := Lib.hid (show w5.heap.size = w.heap.size + 3 by rw [hw5]; simp; exact Z4.out)
  have C5 : Hid (w5.heap[w.heap.size]? = some (.cells #[Value.int .i64 0, Value.int .i64 0, Value.int .u64 0] 26 (0, 0))) := by
    rw [hw5]; exact (blk_alloc_old _ _ _ (by rw [Z4.out]; omega)).trans C4.out
  have D5 : Hid (w5.heap[w.heap.size + 2]? = some (.cells #[Value.int .i64 (4 + (byteAt l 0 : Int) % 13), Value.int .i64 ((byteAt l 1 : Int) % 33), Value.int .u64 (wordN (fun i => byteAt l (2 + i)) 8 : Nat)] 26 (0, 0))) := by
    have := blk_alloc w4 (.cells #[Value.int .i64 (4 + (byteAt l 0 : Int) % 13), Value.int .i64 ((byteAt l 1 : Int) % 33), Value.int .u64 (wordN (fun i => byteAt l (2 + i)) 8 : Nat)] 26)
    rw [Z4.out] at this
    rw [hw5]; exact this
  rw [← hw5, Z4.out]
  clear hw5 R4 S4 B4 Z4 C4
  clear w4
  go_cut [7] (fun s7 wx => ImgIs w g m l s7 wx)
  case first =>
    go_wp2_with fail
    refine (rd_two _ _ _ _ _ _ S5.out hbg R5.out hm).mono ?_
    rintro e w6 ⟨rfl, hR, hO⟩
    have R6 := Lib.hid (show Rd w6 (w.heap.size + 1) g m 12 from hR); have S6 := Lib.hid (hO.src S5.out hbg); have B6 := Lib.hid (hO.below B5.out (Nat.le_succ _)); have Z6 := Lib.hid (hO.size.trans Z5.out); have C6 := Lib.hid ((hO.other w.heap.size (Nat.ne_of_lt (Nat.lt_succ_self _))).trans C5.out)
    have D6 := Lib.hid ((hO.other (w.heap.size + 2) (Nat.ne_of_gt (Nat.lt_succ_self _))).trans D5.out)
    clear hR hO R5 S5 B5 Z5 C5 D5
    clear w5
    obtain ⟨Y, hY⟩ : ∃ Y : Int, Y = (byteAt l 10 + 256 * byteAt l 11 : Nat) := ⟨_, rfl⟩
    have y0 : 0 ≤ Y := by omega
    have y1 : Y ≤ 65535 := by have h1 := byteAt_lt HB.out 10; have h2 := byteAt_lt HB.out 11; omega
    have HY := Lib.hid hY
    have e10 : ((byteAt l (0 + 1 + 1 + 8) + 256 * byteAt l (0 + 1 + 1 + 8 + 1) : Nat) : Int) = Y := hY.symm
    rw [e10]
    clear hY e10
    have hone : Hid (∀ u ∈ (imgOf l).map (Value.int .u8), u.oneCell' = true) := by intro u hu; simp at hu; obtain ⟨_, _, rfl⟩ := hu; rfl
    have hil : (imgLen l : Int) ≤ m := by have := S.out.len; unfold imgLen; omega
    by_cases hy : Y ≤ 8192
    · obtain ⟨n, rfl⟩ := Int.eq_ofNat_of_zero_le y0
      have HK := Lib.hid (show min n (m - 12) = imgLen l by have := HY.out; have := S.out.len; unfold imgLen; omega)
      clear y0 y1
      go_wp2_with fail
      refine (rd_takeQ _ _ _ _ n _ R6.out).mono ?_
      rintro e w7 ⟨⟨p7, rfl, hp7⟩, hR, hO⟩
      have S7 := Lib.hid (hO.src S6.out hbg); have B7 := Lib.hid (hO.below B6.out (Nat.le_succ _)); have Z7 := Lib.hid (hO.size.trans Z6.out); have C7 := Lib.hid ((hO.other w.heap.size (Nat.ne_of_lt (Nat.lt_succ_self _))).trans C6.out)
      have D7 := Lib.hid ((hO.other (w.heap.size + 2) (Nat.ne_of_gt (Nat.lt_succ_self _))).trans D6.out)
      have R7 := Lib.hid (hR.eq (q' := 12 + imgLen l) (by have := HK.out; omega))
      have SR := Lib.hid (img_src S7.out _ p7 HK.out hp7)
      clear hR hO R6 S6 B6 Z6 C6 D6 hp7
      clear w6
      rw [HK.out]
      have HZ := Lib.hid (Nat.le_of_eq Z7.out.symm)
      go_wp2_with (at_builtin; refine wpList_app rfl _ _ 22 rfl (w.heap.size + 3) 5 (.int .u8 0) 1 Tryd.underlying22 A_info5 rfl (.slice none 0 0) 0 [] rfl (World.ownsRow_nil _ _ _ _) (some ⟨g, p7, none⟩) (imgLen l) (imgLen l) ((imgOf l).map (Value.int .u8)) rfl SR.out hone.out (by omega) (by unfold maxLen; omega) HZ.out ?_; intro v' w8 hown hg _; have HO := Lib.hid hown; have HG := Lib.hid hg; clear hown hg)
      all_goals
        go_meet
        have hg8 : ∀ k, k < w7.heap.size → w8.heap[k]? = w7.heap[k]? := fun k hk => HG.out.block k hk (by intro e; cases e)
        refine ⟨by obtain ⟨p, c, k1, k2⟩ := R7.out; exact ⟨p, c, (hg8 _ (by rw [Z7.out]; omega)).trans k1, k2⟩, S7.out.to HG.out.size (hg8 g S7.out.lt), ?_, ?_, (hg8 _ (by rw [Z7.out]; omega)).trans C7.out, (hg8 _ (by rw [Z7.out]; omega)).trans D7.out, ?_⟩
        · exact B7.out.grown HG.out B7.out.size (by intro k hk; cases hk)
        · have := HG.out.size; rw [Z7.out] at this; exact this
        · have := HO.out; simpa using this
    · have hy2 : 8192 < Y := by omega
      have HK := Lib.hid (show min 8192 (m - 12) = imgLen l by have := HY.out; have := S.out.len; unfold imgLen; omega)
      clear hy
      go_wp2_with fail
      refine (rd_takeQ _ _ _ _ 8192 _ R6.out).mono ?_
      rintro e w7 ⟨⟨p7, rfl, hp7⟩, hR, hO⟩
      have S7 := Lib.hid (hO.src S6.out hbg); have B7 := Lib.hid (hO.below B6.out (Nat.le_succ _)); have Z7 := Lib.hid (hO.size.trans Z6.out); have C7 := Lib.hid ((hO.other w.heap.size (Nat.ne_of_lt (Nat.lt_succ_self _))).trans C6.out)
      have D7 := Lib.hid ((hO.other (w.heap.size + 2) (Nat.ne_of_gt (Nat.lt_succ_self _))).trans D6.out)
      have R7 := Lib.hid (hR.eq (q' := 12 + imgLen l) (by have := HK.out; omega))
      have SR := Lib.hid (img_src S7.out _ p7 HK.out hp7)
      clear hR hO R6 S6 B6 Z6 C6 D6 hp7
      clear w6
      rw [HK.out]
      have HZ := Lib.hid (Nat.le_of_eq Z7.out.symm)
      go_wp2_with (at_builtin; refine wpList_app rfl _ _ 22 rfl (w.heap.size + 3) 5 (.int .u8 0) 1 Tryd.underlying22 A_info5 rfl (.slice none 0 0) 0 [] rfl (World.ownsRow_nil _ _ _ _) (some ⟨g, p7, none⟩) (imgLen l) (imgLen l) ((imgOf l).map (Value.int .u8)) rfl SR.out hone.out (by omega) (by unfold maxLen; omega) HZ.out ?_; intro v' w8 hown hg _; have HO := Lib.hid hown; have HG := Lib.hid hg; clear hown hg)
      all_goals
        go_meet
        have hg8 : ∀ k, k < w7.heap.size → w8.heap[k]? = w7.heap[k]? := fun k hk => HG.out.block k hk (by intro e; cases e)
        refine ⟨by obtain ⟨p, c, k1, k2⟩ := R7.out; exact ⟨p, c, (hg8 _ (by rw [Z7.out]; omega)).trans k1, k2⟩, S7.out.to HG.out.size (hg8 g S7.out.lt), ?_, ?_, (hg8 _ (by rw [Z7.out]; omega)).trans C7.out, (hg8 _ (by rw [Z7.out]; omega)).trans D7.out, ?_⟩
        · exact B7.out.grown HG.out B7.out.size (by intro k hk; cases hk)
        · have := HG.out.size; rw [Z7.out] at this; exact this
        · have := HO.out; simpa using this
  case rest =>
    have HC := Lib.hid hcut
    clear hcut
    obtain ⟨wL, rfl⟩ : ∃ x : World, x = wc := ⟨_, rfl⟩
    go_wp2_with fail
    go_loopw [8] (fun v wr => ∃ j : Nat, j ≤ inpN l ∧ wr.ownsRow wL.heap.size 34 4 v j ((inpTo l j).flatMap Inp.vals) ∧ Rd wr (w.heap.size + 1) g m (12 + imgLen l + 3 * j) ∧ Src wr g m l ∧ Turned (fun k => k = w.heap.size + 1) wL wr) (fun v _ => 4096 - slLen v)
    case atStart => exact ⟨0, Nat.zero_le _, World.ownsRow_nil _ _ _ _, HC.out.1, HC.out.2.1, Turned.refl _ _⟩
    case round =>
      obtain ⟨j, hj, hown, hR, hS, hT⟩ := hrel
      obtain ⟨ad, c, rfl⟩ := own_slice hown
      have HW := Lib.hid hown; have R0 := Lib.hid hR; have S0 := Lib.hid hS; have T0 := Lib.hid hT
      obtain ⟨p0, cp0, hRI, _⟩ := hR
      have c0 := blk_cell hRI 0
      simp at c0
      clear hown hS hT hRI
      have hr : ∃ r, r = m - (12 + imgLen l + 3 * j) := ⟨_, rfl⟩
      obtain ⟨r, hr⟩ := hr
      rw [← hr] at c0
      have HR := Lib.hid hr
      have HN := Lib.hid (show inpN l = min 4096 ((m - (12 + imgLen l)) / 3) by unfold inpN; rw [S.out.len])
      clear hr
      by_cases h3 : (3 : Int) ≤ r
      · have hj4 : (j : Int) ≤ 4096 := by have := HN.out; omega
        by_cases h4 : (j : Int) < 4096
        · clear hj4 hj
          have hsz := Lib.hid (show w.heap.size + 1 < wL.heap.size by have := HC.out.2.2.2.1; omega)
          have hq1 : (byteAt l (12 + imgLen l + 3 * j + 1) : Int) < 256 := by have := byteAt_lt HB.out (12 + imgLen l + 3 * j + 1); omega
          have hq2 : (byteAt l (12 + imgLen l + 3 * j + 1 + 1) : Int) < 256 := by have := byteAt_lt HB.out (12 + imgLen l + 3 * j + 1 + 1); omega
          go_wp2_with fail
          refine (rd_byte _ _ _ _ _ _ S0.out hbg R0.out hm).mono ?_
          rintro e w1 ⟨rfl, hR, hO⟩
          have R1 := Lib.hid hR; have S1 := Lib.hid (hO.src S0.out hbg); have T1 := Lib.hid (hO.turned T0.out); have W1 := Lib.hid (hO.own hsz.out HW.out)
          clear hR hO R0 S0 T0 HW c0
          clear wr
          go_wp2_with fail
          refine (rd_byte _ _ _ _ _ _ S1.out hbg R1.out hm).mono ?_
          rintro e w2 ⟨rfl, hR, hO⟩
          have R2 := Lib.hid hR; have S2 := Lib.hid (hO.src S1.out hbg); have T2 := Lib.hid (hO.turned T1.out); have W2 := Lib.hid (hO.own hsz.out W1.out)
          clear hR hO R1 S1 T1 W1
          clear w1
          go_wp2_with fail
          refine (rd_byte _ _ _ _ _ _ S2.out hbg R2.out hm).mono ?_
          rintro e w3 ⟨rfl, hR, hO⟩
          have R3 := Lib.hid hR; have S3 := Lib.hid (hO.src S2.out hbg); have T3 := Lib.hid (hO.turned T2.out); have W3 := Lib.hid (hO.own hsz.out W2.out)
          clear hR hO R2 S2 T2 W2
          clear w2
          obtain ⟨x, hx⟩ : ∃ x, x = byteAt l (12 + imgLen l + 3 * j) := ⟨_, rfl⟩
          obtain ⟨y, hy⟩ : ∃ y, y = byteAt l (12 + imgLen l + 3 * j + 1) := ⟨_, rfl⟩
          obtain ⟨z, hz⟩ : ∃ z, z = byteAt l (12 + imgLen l + 3 * j + 1 + 1) := ⟨_, rfl⟩
          have hx9 : (x : Int) < 256 := by rw [hx]; have := byteAt_lt HB.out (12 + imgLen l + 3 * j); omega
          have hy9 : (y : Int) < 256 := by rw [hy]; have := byteAt_lt HB.out (12 + imgLen l + 3 * j + 1); omega
          have hz9 : (z : Int) < 256 := by rw [hz]; have := byteAt_lt HB.out (12 + imgLen l + 3 * j + 1 + 1); omega
          have hI : Hid (∀ d : Int, d = (if x % 2 = 0 then -1 else (y : Int)) → inpAt l j = ⟨(x &&& 126 : Nat), d, (z : Int) % 16 * 2, (z : Int) / 16⟩) := fun d hd => by
            unfold inpAt; simp only [hx, hy, hz, hd]
          rw [← hx, ← hy, ← hz]
          clear hx hy hz
          obtain ⟨a126, ha⟩ : ∃ a, a = x &&& 126 := ⟨_, rfl⟩
          have hb126 : bits .and .u64 (x : Int) 126 = (a126 : Int) := by rw [ha]; exact u64_and_nat x 126 (by omega) (by omega)
          have ha9 : (a126 : Int) ≤ 126 := by rw [ha]; have : x &&& 126 ≤ 126 := Nat.and_le_right; omega
          rw [← ha] at hI
          clear ha
          have hb1 : bits .and .u64 (x : Int) 1 = ((x % 2 : Nat) : Int) := by rw [← Nat.and_one_is_mod]; exact u64_and_nat x 1 (by omega) (by omega)
          by_cases h2 : x % 2 = 0
          · rw [h2] at hb1
            have HI := Lib.hid (hI.out (-1) (by rw [if_pos h2]))
            have hone : Hid (∀ u ∈ [Value.int .i64 (a126 : Int), Value.int .i64 (-1), Value.int .i64 ((z : Int) % 16 * 2), Value.int .i64 ((z : Int) / 16)], u.oneCell' = true) := by intro u hu; simp at hu; rcases hu with rfl | rfl | rfl | rfl <;> rfl
            clear hI h2
            have h3' := Lib.hid h3; have h4' := Lib.hid h4
            have hj47 := Lib.hid (show (j + 1) * 32 ≤ 140737488355328 by omega)
            have hj63 := Lib.hid (show j + 1 ≤ maxLen by unfold maxLen; omega)
            clear h3 h4
            have h3 := h3'; have h4 := h4'
            have hz3 := Lib.hid (Nat.le_trans (Nat.le_refl _) T3.out.size)
            go_wp2_with (at_builtin; refine wpList_app_new rfl _ _ 27 rfl wL.heap.size 34 _ 4 32 Tryd.underlying27 A_infoInp rfl (by decide) (.slice ad j c) j _ rfl W3.out rfl rfl hone.out hj63.out hj47.out hz3.out ?_; intro v4 w4 hown hg; have HO4 := Lib.hid hown; have HG4 := Lib.hid hg; clear hown hg)
            go_roundw
            case rel =>
              have hg4 : ∀ k, k < w3.heap.size → k < wL.heap.size → w4.heap[k]? = w3.heap[k]? := fun k hk hk2 => by
                rw [HG4.out.block k (by simp; omega) (by intro e; have := own_block W3.out e.symm; omega)]
                exact blk_alloc_old _ _ _ hk
              have hs4 : w3.heap.size ≤ w4.heap.size := by have := HG4.out.size; simp at this; omega
              refine ⟨j + 1, by have := HN.out; have := HR.out; have := h3.out; have := h4.out; omega, ?_, ?_, ?_, ?_⟩
              · rw [inpTo_snoc, HI.out]; exact HO4.out
              · obtain ⟨p, c, k1, k2⟩ := R3.out; exact ⟨p, c, (hg4 _ (blk_lt k1) hsz.out).trans k1, k2⟩
              · exact S3.out.to hs4 (hg4 g S3.out.lt (by have := HC.out.2.2.2.1; have := hg; omega))
              · refine ⟨HG4.out.os.trans T3.out.os, HG4.out.tape.trans T3.out.tape, HG4.out.output.trans T3.out.output, Nat.le_trans T3.out.size hs4, fun k hk hn => ?_⟩
                exact (hg4 k (Nat.lt_of_lt_of_le hk T3.out.size) hk).trans (T3.out.block k hk hn)
            case measure =>
              have := h4.out
              obtain ⟨ad4, c4, rfl⟩ := own_slice HO4.out
              simp only [slLen]; omega
          · rw [show x % 2 = 1 by omega] at hb1
            have HI := Lib.hid (hI.out y (by rw [if_neg h2]))
            have hone : Hid (∀ u ∈ [Value.int .i64 (a126 : Int), Value.int .i64 (y : Int), Value.int .i64 ((z : Int) % 16 * 2), Value.int .i64 ((z : Int) / 16)], u.oneCell' = true) := by intro u hu; simp at hu; rcases hu with rfl | rfl | rfl | rfl <;> rfl
            clear hI h2
            have h3' := Lib.hid h3; have h4' := Lib.hid h4
            have hj47 := Lib.hid (show (j + 1) * 32 ≤ 140737488355328 by omega)
            have hj63 := Lib.hid (show j + 1 ≤ maxLen by unfold maxLen; omega)
            clear h3 h4
            have h3 := h3'; have h4 := h4'
            have hz3 := Lib.hid (Nat.le_trans (Nat.le_refl _) T3.out.size)
            go_wp2_with (at_builtin; refine wpList_app_new rfl _ _ 27 rfl wL.heap.size 34 _ 4 32 Tryd.underlying27 A_infoInp rfl (by decide) (.slice ad j c) j _ rfl W3.out rfl rfl hone.out hj63.out hj47.out hz3.out ?_; intro v4 w4 hown hg; have HO4 := Lib.hid hown; have HG4 := Lib.hid hg; clear hown hg)
            go_roundw
            case rel =>
              have hg4 : ∀ k, k < w3.heap.size → k < wL.heap.size → w4.heap[k]? = w3.heap[k]? := fun k hk hk2 => by
                rw [HG4.out.block k (by simp; omega) (by intro e; have := own_block W3.out e.symm; omega)]
                exact blk_alloc_old _ _ _ hk
              have hs4 : w3.heap.size ≤ w4.heap.size := by have := HG4.out.size; simp at this; omega
              refine ⟨j + 1, by have := HN.out; have := HR.out; have := h3.out; have := h4.out; omega, ?_, ?_, ?_, ?_⟩
              · rw [inpTo_snoc, HI.out]; exact HO4.out
              · obtain ⟨p, c, k1, k2⟩ := R3.out; exact ⟨p, c, (hg4 _ (blk_lt k1) hsz.out).trans k1, k2⟩
              · exact S3.out.to hs4 (hg4 g S3.out.lt (by have := HC.out.2.2.2.1; have := hg; omega))
              · refine ⟨HG4.out.os.trans T3.out.os, HG4.out.tape.trans T3.out.tape, HG4.out.output.trans T3.out.output, Nat.le_trans T3.out.size hs4, fun k hk hn => ?_⟩
                exact (hg4 k (Nat.lt_of_lt_of_le hk T3.out.size) hk).trans (T3.out.block k hk hn)
            case measure =>
              have := h4.out
              obtain ⟨ad4, c4, rfl⟩ := own_slice HO4.out
              simp only [slLen]; omega
        · have HJ := Lib.hid (show j = inpN l by have := HN.out; omega)
          have hns : ∀ k, k ≠ w.heap.size + 1 → k < w.heap.size + 3 → wr.heap[k]? = wL.heap[k]? := fun k hk h => T0.out.block k (Nat.lt_of_lt_of_le h HC.out.2.2.2.1) hk
          have dC := (hns w.heap.size (by omega) (by omega)).trans HC.out.2.2.2.2.1
          have dD := (hns (w.heap.size + 2) (by omega) (by omega)).trans HC.out.2.2.2.2.2.1
          have cc0 := blk_cell dC 0; have cc1 := blk_cell dC 1; have cc2 := blk_cell dC 2; have ff0 := blk_frozen dC 0; have ff1 := blk_frozen dC 1; have ff2 := blk_frozen dC 2
          have dd0 := blk_cell dD 0; have dd1 := blk_cell dD 1; have dd2 := blk_cell dD 2
          simp at cc0 cc1 cc2 dd0 dd1 dd2
          have HDC := Lib.hid dC
          clear hns dC dD
          go_wp2_with fail
          exact bodyPost_ret (v := .tuple #[.agg #[.int .i64 (4 + (byteAt l 0 : Int) % 13), .int .i64 ((byteAt l 1 : Int) % 33), .int .u64 (wordN (fun i => byteAt l (2 + i)) 8 : Nat)], u7, .slice ad j c]) (by simp [results, Tryd.results6, go_sem, cell_set, cc0, cc1, cc2]) rfl (scr_end HC.out T0.out (by rw [← HJ.out]; exact HW.out) _ _ _)
      · have HJ := Lib.hid (show j = inpN l by have := HN.out; have := HR.out; omega)
        have hns : ∀ k, k ≠ w.heap.size + 1 → k < w.heap.size + 3 → wr.heap[k]? = wL.heap[k]? := fun k hk h => T0.out.block k (Nat.lt_of_lt_of_le h HC.out.2.2.2.1) hk
        have dC := (hns w.heap.size (by omega) (by omega)).trans HC.out.2.2.2.2.1
        have dD := (hns (w.heap.size + 2) (by omega) (by omega)).trans HC.out.2.2.2.2.2.1
        have cc0 := blk_cell dC 0; have cc1 := blk_cell dC 1; have cc2 := blk_cell dC 2; have ff0 := blk_frozen dC 0; have ff1 := blk_frozen dC 1; have ff2 := blk_frozen dC 2
        have dd0 := blk_cell dD 0; have dd1 := blk_cell dD 1; have dd2 := blk_cell dD 2
        simp at cc0 cc1 cc2 dd0 dd1 dd2
        have HDC := Lib.hid dC
        clear hns dC dD
        go_wp2_with fail
        exact bodyPost_ret (v := .tuple #[.agg #[.int .i64 (4 + (byteAt l 0 : Int) % 13), .int .i64 ((byteAt l 1 : Int) % 33), .int .u64 (wordN (fun i => byteAt l (2 + i)) 8 : Nat)], u7, .slice ad j c]) (by simp [results, Tryd.results6, go_sem, cell_set, cc0, cc1, cc2]) rfl (scr_end HC.out T0.out (by rw [← HJ.out]; exact HW.out) _ _ _)
end Go.Proofs.YtoiffpoffnlebaaDoor
end
