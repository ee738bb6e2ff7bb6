/- Small lemmas on worlds, blocks and bytes that the walks of this seat use. No condition. The PLIC's state as data (plain Lean; no walk). No condition. The PLIC: its functions walked. No condition. The PLIC: its functions walked. No condition. The PLIC: its table of registers, walked. No condition. The reference PLIC: its table of registers, walked. No condition. The PLIC: a register read, walked. No condition. What is written into the PLIC's registers, as numbers (plain Lean). No condition. The PLIC: a register written, and whatever is read or written, walked. No condition. Rules by which the walk loads and stores a whole struct in one step: a block told by its row of cells. No condition. The rules of XRules at the types that hold the devices; the cells of a Dev, one by one. No condition. The reference PLIC: its best source, walked. No condition. The PLIC's tick, bit by bit and at once (plain Lean). No condition. The reference PLIC: its tick, walked. No condition. The reference PLIC: a register read, walked. No condition. The reference PLIC: a register written, walked. No condition. The PLIC: lines, state, new; whatever is read or written of the reference. No condition. The reference PLIC: its lines, walked. No condition. The ROM's functions, walked: what each call answers and leaves. Condition: none. Contracts of the functions of the ROM and of its law: what each call answers and leaves. No condition. Contracts of the functions of the ROM and of its law: what each call answers and leaves. No condition. Contracts of the functions of the ROM and of its law: what each call answers and leaves. No condition. Contracts of the functions of the ROM and of its law: what each call answers and leaves. No condition. Two arrays of integers held against each other. No condition. Two states of the devices held against each other, walked. No condition. -/
import Derived.Test.YtefcdbpmpnmkjaaRows
import Derived.WalkKit
import Derived.WalkSpells
import Derived.WalkLawsBesides
import Derived.Lib.Hide
import Derived.Deep.OwnRows
import Derived.Deep.QuietTactic
import Derived.BigQuiet
import Derived.Deep.RegionWith
import Derived.Deep.LoopGhost
import Derived.Deep.DeepCutAuto
import Derived.Deep.DeepFit
import Derived.Deep.DeepMust
import Derived.StillTailTactics
import Derived.BigRegion
import Derived.Handy
import Derived.Stop.BytesEq
section
set_option linter.unusedVariables false
set_option linter.unusedSimpArgs false
namespace Go.Proofs.Ytefcdbpmpnmkjaa
open Go.RowKit

theorem blk_cell {w : World} {b : Nat} {C : Array Value} {T : TypeId} {fz : Nat × Nat} (h : w.heap[b]? = some (.cells C T fz)) (o : Nat) : w.cell? ⟨b, o, none⟩ = C[o]? := by
  simp [World.cell?, h]
theorem blk_frozen {w : World} {b : Nat} {C : Array Value} {T : TypeId} (h : w.heap[b]? = some (.cells C T (0, 0))) (o : Nat) : w.frozen? ⟨b, o, none⟩ = false := by
  simp [World.frozen?, h]
theorem blk_set {w : World} {b : Nat} {C : Array Value} {T : TypeId} {fz : Nat × Nat} (h : w.heap[b]? = some (.cells C T fz)) (o : Nat) (v : Value) :
    (w.setCell ⟨b, o, none⟩ v).heap[b]? = some (.cells (C.setIfInBounds o v) T fz) := by
  simp [World.setCell, Array.getElem?_modify, h]
theorem blk_set_ne {w : World} {b : Nat} (a : Addr) (v : Value) (hne : a.block ≠ b) : (w.setCell a v).heap[b]? = w.heap[b]? := by
  simp [World.setCell, Array.getElem?_modify, hne]
theorem blk_alloc (w : World) (o : Obj) : (w.alloc o).heap[w.heap.size]? = some o := heap_alloc_new w o
theorem blk_alloc_old (w : World) (o : Obj) (b : Nat) (h : b < w.heap.size) : (w.alloc o).heap[b]? = w.heap[b]? := Below.heap_alloc w o b h
theorem blk_lt {w : World} {b : Nat} {o : Obj} (h : w.heap[b]? = some o) : b < w.heap.size := (Array.getElem?_eq_some_iff.1 h).1
theorem blk_below {B : Nat} {w w' : World} (h : Below B w w') {b : Nat} (hb : b < B) {o : Obj} (hh : w.heap[b]? = some o) : w'.heap[b]? = some o := (h.block b hb).trans hh
theorem below_cells {W w1 : World} (hb : Below W.heap.size W w1) : (∀ b o, b < W.heap.size → w1.cell? ⟨b, o, none⟩ = W.cell? ⟨b, o, none⟩) ∧ (∀ b o, b < W.heap.size → w1.frozen? ⟨b, o, none⟩ = W.frozen? ⟨b, o, none⟩) :=
  ⟨fun b o h => hb.cell (p := ⟨b, o, none⟩) h, fun b o h => hb.frozen (p := ⟨b, o, none⟩) h⟩

theorem A_info5 : (Try.prog.info? 5).map (fun i => (i.zero, i.size, i.bytes)) = some (some (.int .u8 0), 1, 1) := by kernel_rfl
theorem A_info4 : (Try.prog.info? 4).map (fun i => (i.zero, i.size, i.bytes)) = some (some (.bool false), 1, 1) := by kernel_rfl

theorem ret_int {k : IntKind} {a b : Int} (h : a = b) : Ending.returned (.int k a) = .returned (.int k b) := by rw [h]
theorem ret_bool {a b : Bool} (h : a = b) : Ending.returned (.bool a) = .returned (.bool b) := by rw [h]
theorem cell_set (w : World) (b o b' o' : Nat) (v : Value) : (w.setCell ⟨b, o, none⟩ v).cell? ⟨b', o', none⟩ = if b = b' ∧ o = o' then (w.cell? ⟨b', o', none⟩).map (fun _ => v) else w.cell? ⟨b', o', none⟩ := by
  simp only [World.cell?, World.setCell, Array.getElem?_modify]
  by_cases hb : b = b'
  · subst hb
    simp only [if_true, true_and]
    cases hh : w.heap[b]? with
    | none => simp
    | some ob =>
      cases ob <;> simp
      rw [Array.getElem?_setIfInBounds]
      split
      · rename_i h; subst h; split <;> simp_all
      · rfl
  · simp [hb]
theorem frozen_set (w : World) (a : Addr) (v : Value) (p : Addr) : (w.setCell a v).frozen? p = w.frozen? p := by
  simp only [World.frozen?, World.setCell, Array.getElem?_modify]
  by_cases h : a.block = p.block
  · rw [if_pos h]
    cases hh : w.heap[p.block]? with
    | none => simp
    | some ob => cases ob <;> simp
  · rw [if_neg h]

/-! ### append: onto a row of the call's own, from whatever slice of one-cell elements (nil too) -/
/-- the m cells that a slice leads to hold 'news' -/
def SrcIs (w : World) (ad : Option Addr) (m : Nat) (news : List Value) : Prop :=
  news.length = m ∧ ((ad = none ∧ m = 0) ∨ ∃ b o, ad = some ⟨b, o, none⟩ ∧ ∀ i, i < m → w.cell? ⟨b, o + i, none⟩ = news[i]?)
theorem addr_add (b o i : Nat) : (⟨b, o, none⟩ : Addr).add i = ⟨b, o + i, none⟩ := by unfold Addr.add; split <;> simp_all
theorem run_append_nothing {P : Program} (w : World) (base : Nat) (t ty e : TypeId) (i : TypeInfo) (ht : P.underlying t = some (.slice e)) (hi : P.info? e = some i)
    (v : Value) (n : Nat) (xs : List Value) (hown : w.ownsRow base e i.size v n xs) (c : Nat) :
    (Builtin.append_ #[t, t] ty #[v, .slice none 0 c]).run P w = .ok v w := by
  rcases hown.2 with ⟨rfl, rfl⟩ | ⟨g, cap, cur, rfl, hbg, hg, hnc, hcm, hcs, htake⟩
  · simp [Builtin.append_, run_underlying ht, sizeOf, typeInfo, hi, Builtin.lenOf, Builtin.firstCells, loadCells, loadCellsFrom]
  · simp [Builtin.append_, run_underlying ht, sizeOf, typeInfo, hi, Builtin.lenOf, Builtin.firstCells, loadCells, loadCellsFrom, hnc, storeCells]
theorem wpList_app {P : Program} {w : World} {ops : Array Oper} {rest : List Oper} {o : Oper} {a : Act} {Q : Exit → Act → World → Prop} (hgd : o.guard = none) (s x : Operand) (t : TypeId)
    (ho : o.op = .call { callee := .builtin .append, args := #[s, x], argTypes := #[t, t] })
    (base : Nat) (e : TypeId) (z : Value) (bytes : Nat) (ht : P.underlying t = some (.slice e)) (hinfo : (P.info? e).map (fun i => (i.zero, i.size, i.bytes)) = some (some z, 1, bytes)) (hz1 : z.cells = #[z])
    (v : Value) (n : Nat) (xs : List Value) (hs : a.eval s = v) (hown : w.ownsRow base e 1 v n xs)
    (ad : Option Addr) (m c : Nat) (news : List Value) (hx : a.eval x = .slice ad m c) (hsrc : SrcIs w ad m news) (h1 : ∀ u ∈ news, u.oneCell' = true)
    (hbytes : (n + m) * bytes ≤ 140737488355328) (h63 : n + m ≤ maxLen) (hbase : base ≤ w.heap.size)
    (h : ∀ v' w', w'.ownsRow base e 1 v' (n + m) (xs ++ news) → w.grownBy w' v.ownBlock → (v' = .slice none 0 0 ↔ v = .slice none 0 0 ∧ m = 0) → wpList P ops Q rest (a.put o.dst v') w') : wpList P ops Q (o :: rest) a w := by
  obtain ⟨i, hi, hzz⟩ := Option.map_eq_some_iff.1 hinfo
  simp only [Prod.mk.injEq] at hzz
  obtain ⟨hz, hsz, hb⟩ := hzz
  rcases hsrc with ⟨hl, ⟨rfl, rfl⟩ | ⟨b, of, rfl, hc⟩⟩
  · have hr := run_append_nothing (P := P) w base t o.type e i ht hi v n xs (by rw [hsz]; exact hown) c
    have hn : news = [] := List.eq_nil_of_length_eq_zero hl
    subst hn
    refine wpList_plain hgd fun K hK => ?_
    unfold Oper.wp execOp
    simp only [ho, resolve, invoke, builtin, Sem.run_bind, Sem.run_pure, Result.andThen_ok, List.map_toArray, List.map_cons, List.map_nil, hs, hx, hr]
    exact hK _ _ (h v w (by simpa using hown) ⟨rfl, rfl, rfl, Nat.le_refl _, fun _ _ _ => rfl⟩ (by simp))
  · refine wpList_append_own (w := w) hgd s x t ho base e i z 1 bytes ht hi hz hsz hb (by simp [hz1]) (by omega) v n xs hs hown ⟨b, of, none⟩ m c news hx (by omega) ?_ h1 h63 hbytes hbase h
    intro j u hu
    have hj : j < m := by rw [← hl]; exact (List.getElem?_eq_some_iff.1 hu).1
    rw [addr_add, hc j hj, hu]

theorem src_one (w : World) (v : Value) (T : TypeId) : SrcIs (w.alloc (.cells #[v] T)) (some ⟨w.heap.size, 0, none⟩) 1 [v] := by
  refine ⟨rfl, .inr ⟨_, _, rfl, fun i hi => ?_⟩⟩
  obtain rfl : i = 0 := by omega
  rw [blk_cell (blk_alloc w _)]
  rfl
theorem below_grown {w w' : World} (h : Below w.heap.size w w') (row : Option Nat) : w.grownBy w' row := ⟨h.os, h.tape, h.output, h.size, fun k hk _ => h.block k hk⟩
theorem own_below {w w' : World} {base : Nat} {e : TypeId} {size : Nat} {v : Value} {n : Nat} {xs : List Value} (h : w.ownsRow base e size v n xs) (hb : Below w.heap.size w w') : w'.ownsRow base e size v n xs :=
  h.kept (below_grown hb none) (by cases hv : v.ownBlock <;> simp)
/-- what holds above what was there before both -/
theorem below_then {B : Nat} {a b c : World} (h : Below B a b) (k : Below b.heap.size b c) (hB : B ≤ b.heap.size) : Below B a c := h.trans (k.mono hB)
theorem own_base {B : Nat} {w w' : World} {base : Nat} {e : TypeId} {size : Nat} {v : Value} {n : Nat} {xs : List Value} (h : w.ownsRow base e size v n xs) (hg : w.grownBy w' v.ownBlock) {a : World} (hb : Below B a w) (hB : B ≤ w.heap.size) (hbase : B ≤ base) : Below B a w' :=
  hb.grown hg hB fun k hk => Nat.le_trans hbase (h.lt k hk).1
/-! ### one old block may be written: 'grownBy .. (some b)' -/
theorem grown_refl (w : World) (row : Option Nat) : w.grownBy w row := ⟨rfl, rfl, rfl, Nat.le_refl _, fun _ _ _ => rfl⟩
theorem grown_trans {a b c : World} {row : Option Nat} (h : a.grownBy b row) (k : b.grownBy c row) : a.grownBy c row :=
  ⟨k.os.trans h.os, k.tape.trans h.tape, k.output.trans h.output, Nat.le_trans h.size k.size, fun i hi hr => (k.block i (Nat.lt_of_lt_of_le hi h.size) hr).trans (h.block i hi hr)⟩
theorem grown_drew {a w : World} {row : Option Nat} (h : a.grownBy w row) : a.grownBy w.drew row := ⟨h.os, h.tape, h.output, h.size, h.block⟩
theorem grown_drewN {a w : World} {row : Option Nat} (h : a.grownBy w row) (n : Nat) : a.grownBy (w.drewN n) row := ⟨h.os, h.tape, h.output, h.size, h.block⟩
theorem grown_alloc {a w : World} {row : Option Nat} (h : a.grownBy w row) (o : Obj) : a.grownBy (w.alloc o) row := grown_trans h (World.grownBy_alloc w o row)
theorem grown_set {a w : World} {b : Nat} (h : a.grownBy w (some b)) (o : Nat) (v : Value) : a.grownBy (w.setCell ⟨b, o, none⟩ v) (some b) :=
  grown_trans h ⟨rfl, rfl, rfl, by simp [World.setCell], fun k _ hk => Below.heap_setCell _ _ _ _ (by simpa using hk)⟩
theorem grown_below {B : Nat} {a w w' : World} {b : Nat} (h : Below B a w) (hg : w.grownBy w' (some b)) (hB : B ≤ w.heap.size) (hb : B ≤ b) : Below B a w' := h.grown hg hB (by rintro k ⟨⟩; exact hb)
theorem below_setRow {B : Nat} {a w : World} (h : Below B a w) {g : Nat} (hg : B ≤ g) (cs : Array Value) : Below B a (w.setRow g cs) :=
  h.trans ⟨rfl, rfl, rfl, by simp, fun k hk => setRow_other w g k cs (by omega)⟩
end Go.Proofs.Ytefcdbpmpnmkjaa
end
section
set_option linter.unusedVariables false
set_option linter.unusedSimpArgs false
namespace Go.Proofs.Ytefcdbpmpnmkjaa
open Go.RowKit

/-- what api.Devices holds -/
structure Dev where
  msip : Bool
  mtime : Nat
  cmp : Nat
  pr : Nat → Nat
  pend : Nat
  cla : Nat
  en : Nat → Nat
  th : Nat → Nat
  lines : Nat
  rxa : Option Addr
  rxl : Nat
  rxc : Nat
  txa : Option Addr
  txl : Nat
  txc : Nat
  uen : Nat
  lost : Bool
def Dev.cells (d : Dev) : Array Value := #[.bool d.msip, .int .u64 d.mtime, .int .u64 d.cmp, .int .u32 (d.pr 0), .int .u32 (d.pr 1), .int .u32 (d.pr 2), .int .u32 (d.pr 3), .int .u32 (d.pr 4),
  .int .u32 (d.pr 5), .int .u32 (d.pr 6), .int .u32 (d.pr 7), .int .u32 d.pend, .int .u32 d.cla, .int .u32 (d.en 0), .int .u32 (d.en 1), .int .u32 (d.th 0), .int .u32 (d.th 1), .int .u32 d.lines,
  .slice d.rxa d.rxl d.rxc, .slice d.txa d.txl d.txc, .int .u32 d.uen, .bool d.lost]
/-- every number fits its kind -/
structure Dev.Ok (d : Dev) : Prop where
  pr : ∀ i, i < 8 → d.pr i < 2 ^ 32
  pend : d.pend < 2 ^ 32
  cla : d.cla < 2 ^ 32
  en : ∀ i, i < 2 → d.en i < 2 ^ 32
  th : ∀ i, i < 2 → d.th i < 2 ^ 32
theorem Dev.cell_pr (d : Dev) : ∀ (i : Nat), i < 8 → d.cells[3 + i]? = some (.int .u32 (d.pr i))
  | 0, _ => rfl | 1, _ => rfl | 2, _ => rfl | 3, _ => rfl | 4, _ => rfl | 5, _ => rfl | 6, _ => rfl | 7, _ => rfl
  | n + 8, h => absurd h (by omega)
theorem Dev.cell_en (d : Dev) : ∀ (i : Nat), i < 2 → d.cells[13 + i]? = some (.int .u32 (d.en i))
  | 0, _ => rfl | 1, _ => rfl
  | n + 2, h => absurd h (by omega)
theorem Dev.cell_th (d : Dev) : ∀ (i : Nat), i < 2 → d.cells[15 + i]? = some (.int .u32 (d.th i))
  | 0, _ => rfl | 1, _ => rfl
  | n + 2, h => absurd h (by omega)
def upd (f : Nat → Nat) (i v : Nat) : Nat → Nat := fun j => if j = i then v else f j
theorem Dev.set_pr (d : Dev) (v : Nat) : ∀ (i : Nat), i < 8 → d.cells.setIfInBounds (3 + i) (.int .u32 v) = ({ d with pr := upd d.pr i v } : Dev).cells
  | 0, _ => rfl | 1, _ => rfl | 2, _ => rfl | 3, _ => rfl | 4, _ => rfl | 5, _ => rfl | 6, _ => rfl | 7, _ => rfl
  | n + 8, h => absurd h (by omega)
theorem Dev.set_en (d : Dev) (v : Nat) : ∀ (i : Nat), i < 2 → d.cells.setIfInBounds (13 + i) (.int .u32 v) = ({ d with en := upd d.en i v } : Dev).cells
  | 0, _ => rfl | 1, _ => rfl
  | n + 2, h => absurd h (by omega)
theorem Dev.set_th (d : Dev) (v : Nat) : ∀ (i : Nat), i < 2 → d.cells.setIfInBounds (15 + i) (.int .u32 v) = ({ d with th := upd d.th i v } : Dev).cells
  | 0, _ => rfl | 1, _ => rfl
  | n + 2, h => absurd h (by omega)
theorem Dev.set_pend (d : Dev) (v : Nat) : d.cells.setIfInBounds 11 (.int .u32 v) = ({ d with pend := v } : Dev).cells := rfl
theorem Dev.set_cla (d : Dev) (v : Nat) : d.cells.setIfInBounds 12 (.int .u32 v) = ({ d with cla := v } : Dev).cells := rfl

/-- the best source among 1 .. n of a context -/
def bestTo (x : Nat) (pr : Nat → Nat) : Nat → Nat
  | 0 => 0
  | n + 1 => if x.testBit (n + 1) ∧ pr (bestTo x pr n) < pr (n + 1) then n + 1 else bestTo x pr n
theorem bestTo_le (x : Nat) (pr : Nat → Nat) : ∀ n, bestTo x pr n ≤ n
  | 0 => Nat.le_refl _
  | n + 1 => by unfold bestTo; split; omega; have := bestTo_le x pr n; omega
def Dev.best (d : Dev) (c : Nat) : Nat := bestTo (d.pend &&& d.en c) d.pr 7

/-! bits -/
theorem and32 (a b : Nat) (ha : a < 2 ^ 32) (hb : b < 2 ^ 32) : bits .and .u32 (a : Int) (b : Int) = ((a &&& b : Nat) : Int) := u32_and_nat a b ha hb
theorem and_lt32 {a : Nat} (b : Nat) (ha : a < 2 ^ 32) : a &&& b < 2 ^ 32 := Nat.lt_of_le_of_lt Nat.and_le_left ha
theorem bit32 (x s : Nat) (hx : x < 2 ^ 32) : bits .and .u32 ((x / 2 ^ s : Nat) : Int) 1 = ((x.testBit s).toNat : Int) := by
  have h := u32_and_nat (x / 2 ^ s) 1 (Nat.lt_of_le_of_lt (Nat.div_le_self _ _) hx) (by omega)
  rw [show ((1 : Nat) : Int) = 1 from rfl] at h
  rw [h, Nat.testBit, Nat.shiftRight_eq_div_pow]
  simp only [Nat.and_one_is_mod]
  rcases Nat.mod_two_eq_zero_or_one (x / 2 ^ s) with e | e <;> simp [e, Nat.one_and_eq_mod_two]
theorem bit32i (x s : Nat) (hx : x < 2 ^ 32) : bits .and .u32 ((x : Int) / 2 ^ s) 1 = ((x.testBit s).toNat : Int) := by
  have h := bit32 x s hx
  rw [Int.natCast_ediv, Int.natCast_pow] at h
  exact h
theorem bit_ne (x s : Nat) (hx : x < 2 ^ 32) : (bits .and .u32 ((x : Int) / 2 ^ s) 1 != 0) = x.testBit s := by
  rw [bit32i x s hx]; cases x.testBit s <;> rfl
theorem bit_eq1 (x s : Nat) (hx : x < 2 ^ 32) : (bits .and .u32 ((x : Int) / 2 ^ s) 1 == 1) = x.testBit s := by
  rw [bit32i x s hx]; cases x.testBit s <;> rfl
def andNot32 (a b : Nat) : Nat := a &&& (4294967295 - b)
theorem andNot32_i (a b : Nat) (ha : a < 2 ^ 32) (hb : b < 2 ^ 32) : bits .andNot .u32 (a : Int) (b : Int) = (andNot32 a b : Int) := u32_andNot_nat a b ha hb
theorem or32 (a b : Nat) (ha : a < 2 ^ 32) (hb : b < 2 ^ 32) : bits .or .u32 (a : Int) (b : Int) = ((a ||| b : Nat) : Int) := u32_or_nat a b ha hb
theorem andNot32_lt {a : Nat} (b : Nat) (ha : a < 2 ^ 32) : andNot32 a b < 2 ^ 32 := and_lt32 _ ha
/-- the tick of levels l -/
def Dev.tick (d : Dev) (l : Nat) : Dev := { d with pend := d.pend ||| andNot32 (l &&& 254) d.cla }
theorem Dev.tick_ok (d : Dev) (l : Nat) (hd : d.Ok) (hl : l < 2 ^ 32) : (d.tick l).Ok :=
  ⟨hd.pr, Nat.or_lt_two_pow hd.pend (andNot32_lt _ (and_lt32 _ hl)), hd.cla, hd.en, hd.th⟩
/-- which register stands at an offset: its kind, its number -/
def placeOf (off : Int) : Int × Int :=
  if off = 4096 then (2, 0) else if off = 8192 then (3, 0) else if off = 8320 then (3, 1) else if off = 2097152 then (4, 0) else if off = 2101248 then (4, 1)
  else if off = 2097156 then (5, 0) else if off = 2101252 then (5, 1)
  else if off = 4 then (1, 1) else if off = 8 then (1, 2) else if off = 12 then (1, 3) else if off = 16 then (1, 4) else if off = 20 then (1, 5) else if off = 24 then (1, 6) else if off = 28 then (1, 7)
  else (0, 0)
def pow2 (s : Nat) : Nat := 2 ^ s
theorem pow2_lt {s : Nat} (h : s ≤ 7) : pow2 s < 2 ^ 32 := Nat.pow_lt_pow_right (by omega) (by omega)
theorem shl1_32 {s : Nat} (h : s ≤ 7) : (2 : Int) ^ s % 4294967296 = (pow2 s : Int) := by
  have h1 := pow2_lt h
  have h2 : ((2 : Int) ^ s) = ((pow2 s : Nat) : Int) := by unfold pow2; rw [Int.natCast_pow]; rfl
  rw [h2]
  omega
/-- source s is claimed -/
def Dev.claim (d : Dev) (s : Nat) : Dev := { d with pend := andNot32 d.pend (pow2 s), cla := d.cla ||| pow2 s }
theorem Dev.claim_ok (d : Dev) (s : Nat) (hd : d.Ok) (hs : s ≤ 7) : (d.claim s).Ok :=
  ⟨hd.pr, andNot32_lt _ hd.pend, Nat.or_lt_two_pow hd.cla (pow2_lt hs), hd.en, hd.th⟩
theorem Dev.best_le (d : Dev) (c : Nat) : d.best c ≤ 7 := bestTo_le _ _ _
end Go.Proofs.Ytefcdbpmpnmkjaa
end
section
set_option linter.unusedVariables false
set_option linter.unusedSimpArgs false
namespace Go.Proofs.Ytefcdbpmpnmkjaa
open Go.RowKit
/-- block b holds the PLIC d -/
def PlicAt (w : World) (b : Nat) (d : Dev) : Prop := w.heap[b]? = some (.cells d.cells 104 (0, 0))
set_option maxRecDepth 100000 in
set_option maxHeartbeats 1000000 in
theorem plic_best (d : Dev) (hd : d.Ok) (b c : Nat) (hc : c < 2) (w : World) (hp : PlicAt w b d) :
    Calls Try.prog 62 #[.pointer (some ⟨b, 0, none⟩), .int .i64 c] w fun e w' => e = .returned (.int .i64 (d.best c)) ∧ ∃ n, w' = w.drewN n := by
  have c0 : w.cell? ⟨b, 11, none⟩ = some (.int .u32 d.pend) := blk_cell hp 11
  have c1 : w.cell? ⟨b, 13 + c, none⟩ = some (.int .u32 (d.en c)) := (blk_cell hp _).trans (d.cell_en c hc)
  have hcc : (c : Int) < 2 := by omega
  have hx := and32 d.pend (d.en c) hd.pend (hd.en c hc)
  go_enter Try.func62, Try.ntmps62
  go_wp2
  go_loopw [5, 18] (fun v i wr => ∃ k : Nat, k ≤ 7 ∧ i = .int .i64 k ∧ v = .int .i64 (bestTo (d.pend &&& d.en c) d.pr k) ∧ ∃ n, wr = w.drewN n) (fun _ i _ => 7 - (intOf i).toNat)
  case atStart => exact ⟨0, by omega, rfl, rfl, 0, rfl⟩
  case round =>
    obtain ⟨k, hk, rfl, rfl, n, rfl⟩ := hrel
    by_cases hlt : k < 7
    · have hle := bestTo_le (d.pend &&& d.en c) d.pr k
      generalize hB : bestTo (d.pend &&& d.en c) d.pr k = B at *
      have HB := Lib.hid hB; clear hB
      have c2 : w.cell? ⟨b, 3 + (k + 1), none⟩ = some (.int .u32 (d.pr (k + 1))) := (blk_cell hp _).trans (d.cell_pr _ (by omega))
      have c3 : w.cell? ⟨b, 3 + B, none⟩ = some (.int .u32 (d.pr B)) := (blk_cell hp _).trans (d.cell_pr _ (by omega))
      have hstep : bestTo (d.pend &&& d.en c) d.pr (k + 1) = if (d.pend &&& d.en c).testBit (k + 1) ∧ d.pr B < d.pr (k + 1) then k + 1 else B := by rw [bestTo, HB.out]
      have hbit := bit_ne (d.pend &&& d.en c) (k + 1) (and_lt32 _ hd.pend)
      have hstep := Lib.hid hstep
      by_cases ht : (d.pend &&& d.en c).testBit (k + 1) = true
      · rw [ht] at hbit
        by_cases hpr : d.pr B < d.pr (k + 1)
        · have H2 : Hid (bestTo (d.pend &&& d.en c) d.pr (k + 1) = k + 1) := by show _ = _; rw [hstep.out, if_pos ⟨ht, hpr⟩]
          have ht := Lib.hid ht; clear hstep
          go_wp2
          go_quiet (fail)
          go_wp2
          go_roundw
          case rel => exact ⟨k + 1, by omega, by go_num, by rw [H2.out]; go_num, _, rfl⟩
          case measure => simp [intOf]; omega
        · have H2 : Hid (bestTo (d.pend &&& d.en c) d.pr (k + 1) = B) := by show _ = _; rw [hstep.out, if_neg (fun h => hpr h.2)]
          have ht := Lib.hid ht; clear hstep
          go_wp2
          go_quiet (fail)
          go_wp2
          go_roundw
          case rel => exact ⟨k + 1, by omega, by go_num, by rw [H2.out], _, rfl⟩
          case measure => simp [intOf]; omega
      · have ht : (d.pend &&& d.en c).testBit (k + 1) = false := by simpa using ht
        rw [ht] at hbit
        · have H2 : Hid (bestTo (d.pend &&& d.en c) d.pr (k + 1) = B) := by show _ = _; rw [hstep.out, if_neg (by simp [ht])]
          have ht := Lib.hid ht; clear hstep
          go_wp2
          go_quiet (fail)
          go_wp2
          go_roundw
          case rel => exact ⟨k + 1, by omega, by go_num, by rw [H2.out], _, rfl⟩
          case measure => simp [intOf]; omega
    · obtain rfl : k = 7 := by omega
      have H2 : Hid (bestTo (d.pend &&& d.en c) d.pr 7 = d.best c) := rfl
      go_wp2
      go_ret
      exact ⟨by rw [← H2.out]; rfl, _, rfl⟩
set_option maxRecDepth 100000 in
set_option maxHeartbeats 1000000 in
theorem plic_best_nil (c : Int) (w : World) :
    Calls Try.prog 62 #[.pointer none, .int .i64 c] w fun e w' => e = .returned (.int .i64 0) ∧ w = w' := by
  go_enter Try.func62, Try.ntmps62
  go_wp2
  go_ret
  exact ⟨rfl, rfl⟩
set_option maxRecDepth 100000 in
set_option maxHeartbeats 1000000 in
theorem plic_best_out (b : Nat) (c : Int) (h : c < 0 ∨ 2 ≤ c) (w : World) :
    Calls Try.prog 62 #[.pointer (some ⟨b, 0, none⟩), .int .i64 c] w fun e w' => e = .returned (.int .i64 0) ∧ w = w' := by
  by_cases hc : c < 0
  · clear h
    go_enter Try.func62, Try.ntmps62
    go_wp2
    go_ret
    exact ⟨rfl, rfl⟩
  · have h2 : 2 ≤ c := by omega
    have h0 : 0 ≤ c := by omega
    clear h hc
    go_enter Try.func62, Try.ntmps62
    go_wp2
    go_ret
    exact ⟨rfl, rfl⟩
end Go.Proofs.Ytefcdbpmpnmkjaa
end
section
set_option linter.unusedVariables false
set_option linter.unusedSimpArgs false
namespace Go.Proofs.Ytefcdbpmpnmkjaa
open Go.RowKit
/-- block b has become the PLIC d; nothing else that was there has turned -/
def PlicSet (w : World) (b : Nat) (d : Dev) (w' : World) : Prop := PlicAt w' b d ∧ w.grownBy w' (some b)
set_option maxRecDepth 100000 in
set_option maxHeartbeats 1000000 in
theorem plic_tick (d : Dev) (hd : d.Ok) (b l : Nat) (hl : l < 2 ^ 32) (w : World) (hp : PlicAt w b d) :
    Calls Try.prog 35 #[.pointer (some ⟨b, 0, none⟩), .int .u32 l] w fun e w' => e = .returned (.tuple #[]) ∧ PlicSet w b (d.tick l) w' := by
  have c0 : w.cell? ⟨b, 11, none⟩ = some (.int .u32 d.pend) := blk_cell hp 11
  have c1 : w.cell? ⟨b, 12, none⟩ = some (.int .u32 d.cla) := blk_cell hp 12
  have f0 : w.frozen? ⟨b, 11, none⟩ = false := blk_frozen hp 11
  have e1 : bits .and .u32 (l : Int) 254 = ((l &&& 254 : Nat) : Int) := and32 l 254 hl (by omega)
  have e2 := andNot32_i (l &&& 254) d.cla (and_lt32 _ hl) hd.cla
  have e3 := or32 d.pend (andNot32 (l &&& 254) d.cla) hd.pend (andNot32_lt _ (and_lt32 _ hl))
  have H := Lib.hid hp; clear hp hl hd
  go_enter Try.func35, Try.ntmps35
  go_wp2
  go_region
  go_end0
  exact ⟨rfl, blk_set H.out 11 _, grown_drew (grown_set (grown_refl _ _) _ _)⟩
end Go.Proofs.Ytefcdbpmpnmkjaa
end
section
set_option linter.unusedVariables false
set_option linter.unusedSimpArgs false
namespace Go.Proofs.Ytefcdbpmpnmkjaa
open Go.RowKit
/-- a register's kind and number, as a call answers them -/
def PlaceIs (w : World) (p : Int × Int) (e : Ending) (w' : World) : Prop := e = .returned (.tuple #[.int .i64 p.1, .int .i64 p.2]) ∧ w = w'
set_option maxRecDepth 100000 in
set_option maxHeartbeats 1000000 in
theorem which_4096 (w : World) : Calls Try.prog 91 #[.int .u64 4096] w (PlaceIs w (2, 0)) := by
  go_enter Try.func91, Try.ntmps91
  go_wp2
  go_rounds 8
  go_rounds 3
  go_wp2
  go_ret2
  exact ⟨rfl, rfl⟩
set_option maxRecDepth 100000 in
set_option maxHeartbeats 1000000 in
theorem which_8192 (w : World) : Calls Try.prog 91 #[.int .u64 8192] w (PlaceIs w (3, 0)) := by
  go_enter Try.func91, Try.ntmps91
  go_wp2
  go_rounds 8
  go_rounds 3
  go_ret2
  exact ⟨rfl, rfl⟩
set_option maxRecDepth 100000 in
set_option maxHeartbeats 1000000 in
theorem which_8320 (w : World) : Calls Try.prog 91 #[.int .u64 8320] w (PlaceIs w (3, 1)) := by
  go_enter Try.func91, Try.ntmps91
  go_wp2
  go_rounds 8
  go_rounds 3
  go_ret2
  exact ⟨rfl, rfl⟩
set_option maxRecDepth 100000 in
set_option maxHeartbeats 1000000 in
theorem which_2097152 (w : World) : Calls Try.prog 91 #[.int .u64 2097152] w (PlaceIs w (4, 0)) := by
  go_enter Try.func91, Try.ntmps91
  go_wp2
  go_rounds 8
  go_rounds 3
  go_ret2
  exact ⟨rfl, rfl⟩
set_option maxRecDepth 100000 in
set_option maxHeartbeats 1000000 in
theorem which_2101248 (w : World) : Calls Try.prog 91 #[.int .u64 2101248] w (PlaceIs w (4, 1)) := by
  go_enter Try.func91, Try.ntmps91
  go_wp2
  go_rounds 8
  go_rounds 3
  go_ret2
  exact ⟨rfl, rfl⟩
set_option maxRecDepth 100000 in
set_option maxHeartbeats 1000000 in
theorem which_2097156 (w : World) : Calls Try.prog 91 #[.int .u64 2097156] w (PlaceIs w (5, 0)) := by
  go_enter Try.func91, Try.ntmps91
  go_wp2
  go_rounds 8
  go_rounds 3
  go_ret2
  exact ⟨rfl, rfl⟩
set_option maxRecDepth 100000 in
set_option maxHeartbeats 1000000 in
theorem which_2101252 (w : World) : Calls Try.prog 91 #[.int .u64 2101252] w (PlaceIs w (5, 1)) := by
  go_enter Try.func91, Try.ntmps91
  go_wp2
  go_rounds 8
  go_rounds 3
  go_ret2
  exact ⟨rfl, rfl⟩
set_option maxRecDepth 100000 in
set_option maxHeartbeats 1000000 in
theorem which_4 (w : World) : Calls Try.prog 91 #[.int .u64 4] w (PlaceIs w (1, 1)) := by
  go_enter Try.func91, Try.ntmps91
  go_wp2
  go_rounds 8
  go_ret2
  exact ⟨rfl, rfl⟩
set_option maxRecDepth 100000 in
set_option maxHeartbeats 1000000 in
theorem which_8 (w : World) : Calls Try.prog 91 #[.int .u64 8] w (PlaceIs w (1, 2)) := by
  go_enter Try.func91, Try.ntmps91
  go_wp2
  go_rounds 8
  go_ret2
  exact ⟨rfl, rfl⟩
set_option maxRecDepth 100000 in
set_option maxHeartbeats 1000000 in
theorem which_12 (w : World) : Calls Try.prog 91 #[.int .u64 12] w (PlaceIs w (1, 3)) := by
  go_enter Try.func91, Try.ntmps91
  go_wp2
  go_rounds 8
  go_ret2
  exact ⟨rfl, rfl⟩
set_option maxRecDepth 100000 in
set_option maxHeartbeats 1000000 in
theorem which_16 (w : World) : Calls Try.prog 91 #[.int .u64 16] w (PlaceIs w (1, 4)) := by
  go_enter Try.func91, Try.ntmps91
  go_wp2
  go_rounds 8
  go_ret2
  exact ⟨rfl, rfl⟩
set_option maxRecDepth 100000 in
set_option maxHeartbeats 1000000 in
theorem which_20 (w : World) : Calls Try.prog 91 #[.int .u64 20] w (PlaceIs w (1, 5)) := by
  go_enter Try.func91, Try.ntmps91
  go_wp2
  go_rounds 8
  go_ret2
  exact ⟨rfl, rfl⟩
set_option maxRecDepth 100000 in
set_option maxHeartbeats 1000000 in
theorem which_24 (w : World) : Calls Try.prog 91 #[.int .u64 24] w (PlaceIs w (1, 6)) := by
  go_enter Try.func91, Try.ntmps91
  go_wp2
  go_rounds 8
  go_ret2
  exact ⟨rfl, rfl⟩
set_option maxRecDepth 100000 in
set_option maxHeartbeats 1000000 in
theorem which_28 (w : World) : Calls Try.prog 91 #[.int .u64 28] w (PlaceIs w (1, 7)) := by
  go_enter Try.func91, Try.ntmps91
  go_wp2
  go_rounds 8
  go_ret2
  exact ⟨rfl, rfl⟩
set_option maxRecDepth 100000 in
set_option maxHeartbeats 1000000 in
theorem which_none (off : Int) (w : World) (h4096 : (off == 4096) = false) (h8192 : (off == 8192) = false) (h8320 : (off == 8320) = false) (h2097152 : (off == 2097152) = false) (h2101248 : (off == 2101248) = false) (h2097156 : (off == 2097156) = false) (h2101252 : (off == 2101252) = false) (h4 : (off == 4) = false) (h8 : (off == 8) = false) (h12 : (off == 12) = false) (h16 : (off == 16) = false) (h20 : (off == 20) = false) (h24 : (off == 24) = false) (h28 : (off == 28) = false) : Calls Try.prog 91 #[.int .u64 off] w (PlaceIs w (0, 0)) := by
  go_enter Try.func91, Try.ntmps91
  go_wp2
  go_rounds 8
  go_rounds 3
  go_ret2
  exact ⟨rfl, rfl⟩
theorem which_any (off : Int) (w : World) : Calls Try.prog 91 #[.int .u64 off] w (PlaceIs w (placeOf off)) := by
  unfold placeOf
  by_cases h4096 : off = 4096
  · subst h4096; exact which_4096 w
  rw [if_neg h4096]
  by_cases h8192 : off = 8192
  · subst h8192; exact which_8192 w
  rw [if_neg h8192]
  by_cases h8320 : off = 8320
  · subst h8320; exact which_8320 w
  rw [if_neg h8320]
  by_cases h2097152 : off = 2097152
  · subst h2097152; exact which_2097152 w
  rw [if_neg h2097152]
  by_cases h2101248 : off = 2101248
  · subst h2101248; exact which_2101248 w
  rw [if_neg h2101248]
  by_cases h2097156 : off = 2097156
  · subst h2097156; exact which_2097156 w
  rw [if_neg h2097156]
  by_cases h2101252 : off = 2101252
  · subst h2101252; exact which_2101252 w
  rw [if_neg h2101252]
  by_cases h4 : off = 4
  · subst h4; exact which_4 w
  rw [if_neg h4]
  by_cases h8 : off = 8
  · subst h8; exact which_8 w
  rw [if_neg h8]
  by_cases h12 : off = 12
  · subst h12; exact which_12 w
  rw [if_neg h12]
  by_cases h16 : off = 16
  · subst h16; exact which_16 w
  rw [if_neg h16]
  by_cases h20 : off = 20
  · subst h20; exact which_20 w
  rw [if_neg h20]
  by_cases h24 : off = 24
  · subst h24; exact which_24 w
  rw [if_neg h24]
  by_cases h28 : off = 28
  · subst h28; exact which_28 w
  rw [if_neg h28]
  exact which_none off w (by simpa using h4096) (by simpa using h8192) (by simpa using h8320) (by simpa using h2097152) (by simpa using h2101248) (by simpa using h2097156) (by simpa using h2101252) (by simpa using h4) (by simpa using h8) (by simpa using h12) (by simpa using h16) (by simpa using h20) (by simpa using h24) (by simpa using h28)
end Go.Proofs.Ytefcdbpmpnmkjaa
end
section
set_option linter.unusedVariables false
set_option linter.unusedSimpArgs false
namespace Go.Proofs.Ytefcdbpmpnmkjaa
open Go.RowKit

end Go.Proofs.Ytefcdbpmpnmkjaa
end
section
set_option linter.unusedVariables false
set_option linter.unusedSimpArgs false
namespace Go.Proofs.Ytefcdbpmpnmkjaa
open Go.RowKit
theorem wrap_u64_32 (n : Nat) (h : n < 2 ^ 32) : IntKind.u64.wrap (n : Int) = (n : Int) := by rw [IntKind.wrap_u64]; omega
set_option maxRecDepth 100000 in
set_option maxHeartbeats 1000000 in
theorem plic_read1 (d : Dev) (hd : d.Ok) (off : Int) (k : Nat) (hk : k < 8) (hpl : placeOf off = (1, (k : Int))) (b : Nat) (w : World) (hp : PlicAt w b d) :
    Calls Try.prog 89 #[.pointer (some ⟨b, 0, none⟩), .int .u64 off, .int .i64 4] w fun e w' => e = .returned (.tuple #[.int .u64 (d.pr k : Nat), .int .i64 0]) ∧ w = w' := by
  have hw : Hid (∀ w, Calls Try.prog 91 #[.int .u64 off] w (PlaceIs w (1, (k : Int)))) := fun w => hpl ▸ which_any off w
  have c2 : w.cell? ⟨b, 3 + k, none⟩ = some (.int .u32 (d.pr k)) := (blk_cell hp _).trans (d.cell_pr _ hk)
  have hki : (k : Int) < 8 := by omega
  have hwr := wrap_u64_32 (d.pr k) (hd.pr k hk)
  clear hpl hp hd
  go_enter Try.func89, Try.ntmps89
  go_wp2_with fail
  refine (hw.out _).mono ?_
  rintro e w1 ⟨rfl, rfl⟩
  go_wp2
  go_ret2
  exact ⟨rfl, rfl⟩
set_option maxRecDepth 100000 in
set_option maxHeartbeats 1000000 in
theorem plic_read2 (d : Dev) (hd : d.Ok) (off : Int)  (hpl : placeOf off = (2, 0)) (b : Nat) (w : World) (hp : PlicAt w b d) :
    Calls Try.prog 89 #[.pointer (some ⟨b, 0, none⟩), .int .u64 off, .int .i64 4] w fun e w' => e = .returned (.tuple #[.int .u64 (d.pend : Nat), .int .i64 0]) ∧ w = w' := by
  have hw : Hid (∀ w, Calls Try.prog 91 #[.int .u64 off] w (PlaceIs w (2, 0))) := fun w => hpl ▸ which_any off w
  have c2 : w.cell? ⟨b, 11, none⟩ = some (.int .u32 d.pend) := blk_cell hp _
  have hwr := wrap_u64_32 (d.pend) hd.pend
  clear hpl hp hd
  go_enter Try.func89, Try.ntmps89
  go_wp2_with fail
  refine (hw.out _).mono ?_
  rintro e w1 ⟨rfl, rfl⟩
  go_wp2
  go_ret2
  exact ⟨rfl, rfl⟩
set_option maxRecDepth 100000 in
set_option maxHeartbeats 1000000 in
theorem plic_read3 (d : Dev) (hd : d.Ok) (off : Int) (k : Nat) (hk : k < 2) (hpl : placeOf off = (3, (k : Int))) (b : Nat) (w : World) (hp : PlicAt w b d) :
    Calls Try.prog 89 #[.pointer (some ⟨b, 0, none⟩), .int .u64 off, .int .i64 4] w fun e w' => e = .returned (.tuple #[.int .u64 (d.en k : Nat), .int .i64 0]) ∧ w = w' := by
  have hw : Hid (∀ w, Calls Try.prog 91 #[.int .u64 off] w (PlaceIs w (3, (k : Int)))) := fun w => hpl ▸ which_any off w
  have c2 : w.cell? ⟨b, 13 + k, none⟩ = some (.int .u32 (d.en k)) := (blk_cell hp _).trans (d.cell_en _ hk)
  have hki : (k : Int) < 2 := by omega
  have hwr := wrap_u64_32 (d.en k) (hd.en k hk)
  clear hpl hp hd
  go_enter Try.func89, Try.ntmps89
  go_wp2_with fail
  refine (hw.out _).mono ?_
  rintro e w1 ⟨rfl, rfl⟩
  go_wp2
  go_ret2
  exact ⟨rfl, rfl⟩
set_option maxRecDepth 100000 in
set_option maxHeartbeats 1000000 in
theorem plic_read4 (d : Dev) (hd : d.Ok) (off : Int) (k : Nat) (hk : k < 2) (hpl : placeOf off = (4, (k : Int))) (b : Nat) (w : World) (hp : PlicAt w b d) :
    Calls Try.prog 89 #[.pointer (some ⟨b, 0, none⟩), .int .u64 off, .int .i64 4] w fun e w' => e = .returned (.tuple #[.int .u64 (d.th k : Nat), .int .i64 0]) ∧ w = w' := by
  have hw : Hid (∀ w, Calls Try.prog 91 #[.int .u64 off] w (PlaceIs w (4, (k : Int)))) := fun w => hpl ▸ which_any off w
  have c2 : w.cell? ⟨b, 15 + k, none⟩ = some (.int .u32 (d.th k)) := (blk_cell hp _).trans (d.cell_th _ hk)
  have hki : (k : Int) < 2 := by omega
  have hwr := wrap_u64_32 (d.th k) (hd.th k hk)
  clear hpl hp hd
  go_enter Try.func89, Try.ntmps89
  go_wp2_with fail
  refine (hw.out _).mono ?_
  rintro e w1 ⟨rfl, rfl⟩
  go_wp2
  go_ret2
  exact ⟨rfl, rfl⟩
/-- no number, and that error -/
def NumErr (w : World) (k : Int) (e : Ending) (w' : World) : Prop := e = .returned (.tuple #[.int .u64 0, .int .i64 k]) ∧ w = w'
set_option maxRecDepth 100000 in
set_option maxHeartbeats 1000000 in
theorem plic_read0 (off : Int) (hpl : placeOf off = (0, 0)) (b : Nat) (w : World) : Calls Try.prog 89 #[.pointer (some ⟨b, 0, none⟩), .int .u64 off, .int .i64 4] w (NumErr w 6) := by
  have hw : Hid (∀ w, Calls Try.prog 91 #[.int .u64 off] w (PlaceIs w (0, 0))) := fun w => hpl ▸ which_any off w
  clear hpl
  go_enter Try.func89, Try.ntmps89
  go_wp2_with fail
  refine (hw.out _).mono ?_
  rintro e w1 ⟨rfl, rfl⟩
  go_wp2
  go_ret2
  exact ⟨rfl, rfl⟩
set_option maxRecDepth 100000 in
set_option maxHeartbeats 1000000 in
theorem plic_read_size (off size : Int) (hs : (size != 4) = true) (b : Nat) (w : World) : Calls Try.prog 89 #[.pointer (some ⟨b, 0, none⟩), .int .u64 off, .int .i64 size] w (NumErr w 6) := by
  go_enter Try.func89, Try.ntmps89
  go_wp2
  go_ret2
  exact ⟨rfl, rfl⟩
set_option maxRecDepth 100000 in
set_option maxHeartbeats 1000000 in
theorem plic_read_nil (off size : Int) (w : World) : Calls Try.prog 89 #[.pointer none, .int .u64 off, .int .i64 size] w (NumErr w 2) := by
  go_enter Try.func89, Try.ntmps89
  go_wp2
  go_ret2
  exact ⟨rfl, rfl⟩
set_option maxRecDepth 100000 in
set_option maxHeartbeats 1000000 in
theorem plic_read5 (d : Dev) (hd : d.Ok) (off : Int) (k : Nat) (hk : k < 2) (hpl : placeOf off = (5, (k : Int))) (b : Nat) (w : World) (hp : PlicAt w b d) (hpos : 0 < d.best k) :
    Calls Try.prog 89 #[.pointer (some ⟨b, 0, none⟩), .int .u64 off, .int .i64 4] w fun e w' => e = .returned (.tuple #[.int .u64 (d.best k), .int .i64 0]) ∧ PlicSet w b (d.claim (d.best k)) w' := by
  have hw : Hid (∀ w, Calls Try.prog 91 #[.int .u64 off] w (PlaceIs w (5, k))) := fun w => hpl ▸ which_any off w
  have hbest : Hid (∀ w, PlicAt w b d → Calls Try.prog 62 #[.pointer (some ⟨b, 0, none⟩), .int .i64 k] w fun e w' => e = .returned (.int .i64 (d.best k)) ∧ ∃ n, w' = w.drewN n) := fun w h => plic_best d hd b k hk w h
  have hs7 : d.best k ≤ 7 := bestTo_le _ _ _
  generalize d.best k = s at *
  have c0 : w.cell? ⟨b, 11, none⟩ = some (.int .u32 d.pend) := blk_cell hp 11
  have c1 : w.cell? ⟨b, 12, none⟩ = some (.int .u32 d.cla) := blk_cell hp 12
  have f0 : w.frozen? ⟨b, 11, none⟩ = false := blk_frozen hp 11
  have f1 : w.frozen? ⟨b, 12, none⟩ = false := blk_frozen hp 12
  have HP := Lib.hid hp
  have e0 := shl1_32 hs7
  have e1 := andNot32_i d.pend (pow2 s) hd.pend (pow2_lt hs7)
  have e2 := or32 d.cla (pow2 s) hd.cla (pow2_lt hs7)
  have hpos' : (0 : Int) < s := by omega
  clear hpl hp hd hpos
  go_enter Try.func89, Try.ntmps89
  go_wp2_with fail
  refine (hw.out _).mono ?_
  rintro e w1 ⟨rfl, rfl⟩
  go_wp2_with fail
  refine (hbest.out _ HP.out).mono ?_
  rintro e w1 ⟨rfl, n, rfl⟩
  go_wp2
  go_region
  go_wp2
  go_region
  go_wp2
  go_ret2
  refine ⟨?_, ?_, ?_⟩
  · rfl
  · exact blk_set (blk_set HP.out 11 _) 12 _
  · exact grown_drew (grown_set (grown_set (grown_drewN (grown_refl _ _) _) _ _) _ _)
set_option maxRecDepth 100000 in
set_option maxHeartbeats 1000000 in
theorem plic_read5z (d : Dev) (hd : d.Ok) (off : Int) (k : Nat) (hk : k < 2) (hpl : placeOf off = (5, (k : Int))) (b : Nat) (w : World) (hp : PlicAt w b d) (hz : d.best k = 0) :
    Calls Try.prog 89 #[.pointer (some ⟨b, 0, none⟩), .int .u64 off, .int .i64 4] w fun e w' => e = .returned (.tuple #[.int .u64 0, .int .i64 0]) ∧ ∃ n, w' = w.drewN n := by
  have hw : Hid (∀ w, Calls Try.prog 91 #[.int .u64 off] w (PlaceIs w (5, k))) := fun w => hpl ▸ which_any off w
  have hbest : Hid (∀ w, PlicAt w b d → Calls Try.prog 62 #[.pointer (some ⟨b, 0, none⟩), .int .i64 k] w fun e w' => e = .returned (.int .i64 0) ∧ ∃ n, w' = w.drewN n) := by
    intro w h; have := plic_best d hd b k hk w h; rw [hz] at this; exact this
  have HP := Lib.hid hp
  clear hpl hp hd hz
  go_enter Try.func89, Try.ntmps89
  go_wp2_with fail
  refine (hw.out _).mono ?_
  rintro e w1 ⟨rfl, rfl⟩
  go_wp2_with fail
  refine (hbest.out _ HP.out).mono ?_
  rintro e w1 ⟨rfl, n, rfl⟩
  go_wp2
  go_ret2
  exact ⟨rfl, n, rfl⟩
end Go.Proofs.Ytefcdbpmpnmkjaa
end
section
set_option linter.unusedVariables false
set_option linter.unusedSimpArgs false
namespace Go.Proofs.Ytefcdbpmpnmkjaa
open Go.RowKit
def lo32 (v : Nat) : Nat := v &&& 4294967295
def and7 (v : Nat) : Nat := v &&& 7
def and254 (v : Nat) : Nat := v &&& 254
theorem lo32_lt (v : Nat) : lo32 v < 2 ^ 32 := Nat.lt_of_le_of_lt Nat.and_le_right (by omega)
theorem and7_lt (v : Nat) : and7 v < 8 := Nat.lt_of_le_of_lt Nat.and_le_right (by omega)
theorem and254_lt (v : Nat) : and254 v < 255 := Nat.lt_of_le_of_lt Nat.and_le_right (by omega)
theorem lo32_i (v : Nat) (h : v < 2 ^ 64) : bits .and .u64 (v : Int) 4294967295 = (lo32 v : Int) := u64_and_nat v 4294967295 h (by omega)
theorem and7_i (v : Nat) (h : v < 2 ^ 32) : bits .and .u64 (v : Int) 7 = (and7 v : Int) := u64_and_nat v 7 (by omega) (by omega)
theorem and254_i (v : Nat) (h : v < 2 ^ 32) : bits .and .u64 (v : Int) 254 = (and254 v : Int) := u64_and_nat v 254 (by omega) (by omega)
theorem mod32_i (v : Nat) (h : v < 2 ^ 32) : (v : Int) % 4294967296 = (v : Int) := by omega
/-- the completion of source s in context k -/
def Dev.complete (d : Dev) (k s : Nat) : Dev := { d with cla := andNot32 d.cla (d.en k &&& pow2 s) }
theorem upd_lt {f : Nat → Nat} {n i v B : Nat} (hf : ∀ j, j < n → f j < B) (hv : v < B) : ∀ j, j < n → upd f i v j < B := by
  intro j hj; unfold upd; split
  · exact hv
  · exact hf j hj
theorem place_cases (off : Int) : placeOf off = (0, 0) ∨ (∃ k : Nat, 1 ≤ k ∧ k < 8 ∧ placeOf off = (1, (k : Int))) ∨ placeOf off = (2, 0) ∨ (∃ k : Nat, k < 2 ∧ placeOf off = (3, (k : Int))) ∨ (∃ k : Nat, k < 2 ∧ placeOf off = (4, (k : Int))) ∨ (∃ k : Nat, k < 2 ∧ placeOf off = (5, (k : Int))) := by
  by_cases h4096 : off = 4096
  · subst h4096; exact .inr (.inr (.inl rfl))
  by_cases h8192 : off = 8192
  · subst h8192; exact .inr (.inr (.inr (.inl ⟨0, by omega, rfl⟩)))
  by_cases h8320 : off = 8320
  · subst h8320; exact .inr (.inr (.inr (.inl ⟨1, by omega, rfl⟩)))
  by_cases h2097152 : off = 2097152
  · subst h2097152; exact .inr (.inr (.inr (.inr (.inl ⟨0, by omega, rfl⟩))))
  by_cases h2101248 : off = 2101248
  · subst h2101248; exact .inr (.inr (.inr (.inr (.inl ⟨1, by omega, rfl⟩))))
  by_cases h2097156 : off = 2097156
  · subst h2097156; exact .inr (.inr (.inr (.inr (.inr ⟨0, by omega, rfl⟩))))
  by_cases h2101252 : off = 2101252
  · subst h2101252; exact .inr (.inr (.inr (.inr (.inr ⟨1, by omega, rfl⟩))))
  by_cases h4 : off = 4
  · subst h4; exact .inr (.inl ⟨1, by omega, by omega, rfl⟩)
  by_cases h8 : off = 8
  · subst h8; exact .inr (.inl ⟨2, by omega, by omega, rfl⟩)
  by_cases h12 : off = 12
  · subst h12; exact .inr (.inl ⟨3, by omega, by omega, rfl⟩)
  by_cases h16 : off = 16
  · subst h16; exact .inr (.inl ⟨4, by omega, by omega, rfl⟩)
  by_cases h20 : off = 20
  · subst h20; exact .inr (.inl ⟨5, by omega, by omega, rfl⟩)
  by_cases h24 : off = 24
  · subst h24; exact .inr (.inl ⟨6, by omega, by omega, rfl⟩)
  by_cases h28 : off = 28
  · subst h28; exact .inr (.inl ⟨7, by omega, by omega, rfl⟩)
  exact .inl (by unfold placeOf; rw [if_neg h4096, if_neg h8192, if_neg h8320, if_neg h2097152, if_neg h2101248, if_neg h2097156, if_neg h2101252, if_neg h4, if_neg h8, if_neg h12, if_neg h16, if_neg h20, if_neg h24, if_neg h28])
/-- a register read: the number, the error, what is then -/
def Dev.read (d : Dev) (off size : Int) : Nat × Int × Dev :=
  if size = 4 then
    if (placeOf off).1 = 1 then (d.pr (placeOf off).2.toNat, 0, d)
    else if (placeOf off).1 = 2 then (d.pend, 0, d)
    else if (placeOf off).1 = 3 then (d.en (placeOf off).2.toNat, 0, d)
    else if (placeOf off).1 = 4 then (d.th (placeOf off).2.toNat, 0, d)
    else if (placeOf off).1 = 5 then (d.best (placeOf off).2.toNat, 0, if d.best (placeOf off).2.toNat = 0 then d else d.claim (d.best (placeOf off).2.toNat))
    else (0, 6, d)
  else (0, 6, d)
/-- a register written: the error, what is then -/
def Dev.write (d : Dev) (off size : Int) (v : Nat) : Int × Dev :=
  if size = 4 then
    if (placeOf off).1 = 1 then (0, { d with pr := upd d.pr (placeOf off).2.toNat (and7 (lo32 v)) })
    else if (placeOf off).1 = 3 then (0, { d with en := upd d.en (placeOf off).2.toNat (and254 (lo32 v)) })
    else if (placeOf off).1 = 4 then (0, { d with th := upd d.th (placeOf off).2.toNat (and7 (lo32 v)) })
    else if (placeOf off).1 = 5 then (0, if 1 ≤ lo32 v ∧ lo32 v ≤ 7 then d.complete (placeOf off).2.toNat (lo32 v) else d)
    else (6, d)
  else (6, d)
theorem Dev.read_ok (d : Dev) (hd : d.Ok) (off size : Int) : (d.read off size).2.2.Ok ∧ (d.read off size).1 < 2 ^ 32 := by
  unfold Dev.read
  by_cases hs : size = 4
  · rw [if_pos hs]
    rcases place_cases off with h | ⟨k, h1, h2, h⟩ | h | ⟨k, h2, h⟩ | ⟨k, h2, h⟩ | ⟨k, h2, h⟩ <;> simp only [h, Int.toNat_natCast, if_pos, if_neg, reduceIte, Int.reduceEq]
    · exact ⟨hd, by omega⟩
    · exact ⟨hd, hd.pr k h2⟩
    · exact ⟨hd, hd.pend⟩
    · exact ⟨hd, hd.en k h2⟩
    · exact ⟨hd, hd.th k h2⟩
    · have := d.best_le k
      refine ⟨?_, by omega⟩
      split
      · exact hd
      · exact d.claim_ok _ hd this
  · rw [if_neg hs]; exact ⟨hd, by omega⟩
theorem Dev.write_ok (d : Dev) (hd : d.Ok) (off size : Int) (v : Nat) : (d.write off size v).2.Ok := by
  unfold Dev.write
  by_cases hs : size = 4
  · rw [if_pos hs]
    have a7 := and7_lt (lo32 v)
    have a254 := and254_lt (lo32 v)
    rcases place_cases off with h | ⟨k, h1, h2, h⟩ | h | ⟨k, h2, h⟩ | ⟨k, h2, h⟩ | ⟨k, h2, h⟩ <;> simp only [h, Int.toNat_natCast, if_pos, if_neg, reduceIte, Int.reduceEq]
    · exact hd
    · exact ⟨upd_lt hd.pr (by omega), hd.pend, hd.cla, hd.en, hd.th⟩
    · exact hd
    · exact ⟨hd.pr, hd.pend, hd.cla, upd_lt hd.en (by omega), hd.th⟩
    · exact ⟨hd.pr, hd.pend, hd.cla, hd.en, upd_lt hd.th (by omega)⟩
    · split
      · exact ⟨hd.pr, hd.pend, andNot32_lt _ hd.cla, hd.en, hd.th⟩
      · exact hd
  · rw [if_neg hs]; exact hd
end Go.Proofs.Ytefcdbpmpnmkjaa
end
section
set_option linter.unusedVariables false
set_option linter.unusedSimpArgs false
namespace Go.Proofs.Ytefcdbpmpnmkjaa
open Go.RowKit
set_option maxRecDepth 100000 in
set_option maxHeartbeats 1000000 in
theorem plic_write1 (d : Dev) (off : Int) (v : Nat) (hv : v < 2 ^ 64) (k : Nat) (hk : k < 8) (hpl : placeOf off = (1, (k : Int))) (b : Nat) (w : World) (hp : PlicAt w b d) :
    Calls Try.prog 90 #[.pointer (some ⟨b, 0, none⟩), .int .u64 off, .int .i64 4, .int .u64 v] w fun e w' => e = .returned (.int .i64 0) ∧ PlicSet w b { d with pr := upd d.pr k (and7 (lo32 v)) } w' := by
  have hw : Hid (∀ w, Calls Try.prog 91 #[.int .u64 off] w (PlaceIs w (1, k))) := fun w => hpl ▸ which_any off w
  have c2 : w.cell? ⟨b, 3 + k, none⟩ = some (.int .u32 (d.pr k)) := (blk_cell hp _).trans (d.cell_pr _ hk)
  have f2 : w.frozen? ⟨b, 3 + k, none⟩ = false := blk_frozen hp _
  have hki : (k : Int) < 8 := by omega
  have e0 := lo32_i v hv
  have e1 := and7_i (lo32 v) (lo32_lt v)
  have e2 := mod32_i (and7 (lo32 v)) (Nat.lt_of_lt_of_le (and7_lt _) (by omega))
  have HP := Lib.hid hp
  clear hpl hp hv
  go_enter Try.func90, Try.ntmps90
  go_wp2_with fail
  refine (hw.out _).mono ?_
  rintro e w1 ⟨rfl, rfl⟩
  go_wp2
  go_ret
  exact ⟨rfl, (blk_set HP.out (3 + k) _).trans (by rw [Dev.set_pr _ _ _ hk]), grown_set (grown_refl _ _) _ _⟩
set_option maxRecDepth 100000 in
set_option maxHeartbeats 1000000 in
theorem plic_write3 (d : Dev) (off : Int) (v : Nat) (hv : v < 2 ^ 64) (k : Nat) (hk : k < 2) (hpl : placeOf off = (3, (k : Int))) (b : Nat) (w : World) (hp : PlicAt w b d) :
    Calls Try.prog 90 #[.pointer (some ⟨b, 0, none⟩), .int .u64 off, .int .i64 4, .int .u64 v] w fun e w' => e = .returned (.int .i64 0) ∧ PlicSet w b { d with en := upd d.en k (and254 (lo32 v)) } w' := by
  have hw : Hid (∀ w, Calls Try.prog 91 #[.int .u64 off] w (PlaceIs w (3, k))) := fun w => hpl ▸ which_any off w
  have c2 : w.cell? ⟨b, 13 + k, none⟩ = some (.int .u32 (d.en k)) := (blk_cell hp _).trans (d.cell_en _ hk)
  have f2 : w.frozen? ⟨b, 13 + k, none⟩ = false := blk_frozen hp _
  have hki : (k : Int) < 2 := by omega
  have e0 := lo32_i v hv
  have e1 := and254_i (lo32 v) (lo32_lt v)
  have e2 := mod32_i (and254 (lo32 v)) (Nat.lt_of_lt_of_le (and254_lt _) (by omega))
  have HP := Lib.hid hp
  clear hpl hp hv
  go_enter Try.func90, Try.ntmps90
  go_wp2_with fail
  refine (hw.out _).mono ?_
  rintro e w1 ⟨rfl, rfl⟩
  go_wp2
  go_ret
  exact ⟨rfl, (blk_set HP.out (13 + k) _).trans (by rw [Dev.set_en _ _ _ hk]), grown_set (grown_refl _ _) _ _⟩
set_option maxRecDepth 100000 in
set_option maxHeartbeats 1000000 in
theorem plic_write4 (d : Dev) (off : Int) (v : Nat) (hv : v < 2 ^ 64) (k : Nat) (hk : k < 2) (hpl : placeOf off = (4, (k : Int))) (b : Nat) (w : World) (hp : PlicAt w b d) :
    Calls Try.prog 90 #[.pointer (some ⟨b, 0, none⟩), .int .u64 off, .int .i64 4, .int .u64 v] w fun e w' => e = .returned (.int .i64 0) ∧ PlicSet w b { d with th := upd d.th k (and7 (lo32 v)) } w' := by
  have hw : Hid (∀ w, Calls Try.prog 91 #[.int .u64 off] w (PlaceIs w (4, k))) := fun w => hpl ▸ which_any off w
  have c2 : w.cell? ⟨b, 15 + k, none⟩ = some (.int .u32 (d.th k)) := (blk_cell hp _).trans (d.cell_th _ hk)
  have f2 : w.frozen? ⟨b, 15 + k, none⟩ = false := blk_frozen hp _
  have hki : (k : Int) < 2 := by omega
  have e0 := lo32_i v hv
  have e1 := and7_i (lo32 v) (lo32_lt v)
  have e2 := mod32_i (and7 (lo32 v)) (Nat.lt_of_lt_of_le (and7_lt _) (by omega))
  have HP := Lib.hid hp
  clear hpl hp hv
  go_enter Try.func90, Try.ntmps90
  go_wp2_with fail
  refine (hw.out _).mono ?_
  rintro e w1 ⟨rfl, rfl⟩
  go_wp2
  go_ret
  exact ⟨rfl, (blk_set HP.out (15 + k) _).trans (by rw [Dev.set_th _ _ _ hk]), grown_set (grown_refl _ _) _ _⟩
set_option maxRecDepth 100000 in
set_option maxHeartbeats 1000000 in
theorem plic_write0 (off : Int) (v : Nat) (hv : v < 2 ^ 64) (hpl : placeOf off = (0, 0)) (b : Nat) (w : World) :
    Calls Try.prog 90 #[.pointer (some ⟨b, 0, none⟩), .int .u64 off, .int .i64 4, .int .u64 v] w fun e w' => e = .returned (.int .i64 6) ∧ w = w' := by
  have hw : Hid (∀ w, Calls Try.prog 91 #[.int .u64 off] w (PlaceIs w (0, 0))) := fun w => hpl ▸ which_any off w
  have e0 := lo32_i v hv
  clear hpl hv
  go_enter Try.func90, Try.ntmps90
  go_wp2_with fail
  refine (hw.out _).mono ?_
  rintro e w1 ⟨rfl, rfl⟩
  go_wp2
  go_ret
  exact ⟨rfl, rfl⟩
set_option maxRecDepth 100000 in
set_option maxHeartbeats 1000000 in
theorem plic_write2 (off : Int) (v : Nat) (hv : v < 2 ^ 64) (hpl : placeOf off = (2, 0)) (b : Nat) (w : World) :
    Calls Try.prog 90 #[.pointer (some ⟨b, 0, none⟩), .int .u64 off, .int .i64 4, .int .u64 v] w fun e w' => e = .returned (.int .i64 6) ∧ w = w' := by
  have hw : Hid (∀ w, Calls Try.prog 91 #[.int .u64 off] w (PlaceIs w (2, 0))) := fun w => hpl ▸ which_any off w
  have e0 := lo32_i v hv
  clear hpl hv
  go_enter Try.func90, Try.ntmps90
  go_wp2_with fail
  refine (hw.out _).mono ?_
  rintro e w1 ⟨rfl, rfl⟩
  go_wp2
  go_ret
  exact ⟨rfl, rfl⟩
set_option maxRecDepth 100000 in
set_option maxHeartbeats 1000000 in
theorem plic_write_size (off size v : Int) (hs : (size != 4) = true) (b : Nat) (w : World) :
    Calls Try.prog 90 #[.pointer (some ⟨b, 0, none⟩), .int .u64 off, .int .i64 size, .int .u64 v] w fun e w' => e = .returned (.int .i64 6) ∧ w = w' := by
  go_enter Try.func90, Try.ntmps90
  go_wp2
  go_ret
  exact ⟨rfl, rfl⟩
set_option maxRecDepth 100000 in
set_option maxHeartbeats 1000000 in
theorem plic_write_nil (off size v : Int) (w : World) :
    Calls Try.prog 90 #[.pointer none, .int .u64 off, .int .i64 size, .int .u64 v] w fun e w' => e = .returned (.int .i64 2) ∧ w = w' := by
  go_enter Try.func90, Try.ntmps90
  go_wp2
  go_ret
  exact ⟨rfl, rfl⟩
set_option maxRecDepth 100000 in
set_option maxHeartbeats 1000000 in
theorem plic_write5 (d : Dev) (hd : d.Ok) (off : Int) (v : Nat) (hv : v < 2 ^ 64) (h1 : 1 ≤ lo32 v) (h7 : lo32 v ≤ 7) (k : Nat) (hk : k < 2) (hpl : placeOf off = (5, (k : Int))) (b : Nat) (w : World) (hp : PlicAt w b d) :
    Calls Try.prog 90 #[.pointer (some ⟨b, 0, none⟩), .int .u64 off, .int .i64 4, .int .u64 v] w fun e w' => e = .returned (.int .i64 0) ∧ PlicSet w b (d.complete k (lo32 v)) w' := by
  have hw : Hid (∀ w, Calls Try.prog 91 #[.int .u64 off] w (PlaceIs w (5, k))) := fun w => hpl ▸ which_any off w
  have c1 : w.cell? ⟨b, 12, none⟩ = some (.int .u32 d.cla) := blk_cell hp 12
  have c2 : w.cell? ⟨b, 13 + k, none⟩ = some (.int .u32 (d.en k)) := (blk_cell hp _).trans (d.cell_en _ hk)
  have f1 : w.frozen? ⟨b, 12, none⟩ = false := blk_frozen hp 12
  have hki : (k : Int) < 2 := by omega
  have e0 := lo32_i v hv
  generalize hV : lo32 v = V at *
  have b1 : (1 : Int) ≤ V := by omega
  have b7 : (V : Int) ≤ 7 := by omega
  have e1 := shl1_32 h7
  have e2 := and32 (d.en k) (pow2 V) (hd.en k hk) (pow2_lt h7)
  have e3 := andNot32_i d.cla (d.en k &&& pow2 V) hd.cla (and_lt32 _ (hd.en k hk))
  have HP := Lib.hid hp
  clear hpl hp hv hd h1 h7 hV
  go_enter Try.func90, Try.ntmps90
  go_wp2_with fail
  refine (hw.out _).mono ?_
  rintro e w1 ⟨rfl, rfl⟩
  go_wp2
  go_region
  go_wp2
  go_ret
  exact ⟨rfl, blk_set HP.out 12 _, grown_drew (grown_set (grown_refl _ _) _ _)⟩
set_option maxRecDepth 100000 in
set_option maxHeartbeats 1000000 in
theorem plic_write5n (off : Int) (v : Nat) (hv : v < 2 ^ 64) (hn : ¬ (1 ≤ lo32 v ∧ lo32 v ≤ 7)) (k : Nat) (hpl : placeOf off = (5, (k : Int))) (b : Nat) (w : World) :
    Calls Try.prog 90 #[.pointer (some ⟨b, 0, none⟩), .int .u64 off, .int .i64 4, .int .u64 v] w fun e w' => e = .returned (.int .i64 0) ∧ w = w' := by
  have hw : Hid (∀ w, Calls Try.prog 91 #[.int .u64 off] w (PlaceIs w (5, k))) := fun w => hpl ▸ which_any off w
  have e0 := lo32_i v hv
  generalize hV : lo32 v = V at *
  clear hpl hv hV
  by_cases hz : V < 1
  · have b1 : (V : Int) < 1 := by omega
    clear hn hz
    go_enter Try.func90, Try.ntmps90
    go_wp2_with fail
    refine (hw.out _).mono ?_
    rintro e w1 ⟨rfl, rfl⟩
    go_wp2
    go_ret
    exact ⟨rfl, rfl⟩
  · have b1 : (1 : Int) ≤ V := by omega
    have b7 : (7 : Int) < V := by omega
    clear hn hz
    go_enter Try.func90, Try.ntmps90
    go_wp2_with fail
    refine (hw.out _).mono ?_
    rintro e w1 ⟨rfl, rfl⟩
    go_wp2
    go_ret
    exact ⟨rfl, rfl⟩
/-- whatever is written -/
theorem plic_write_any (d : Dev) (hd : d.Ok) (off size : Int) (v : Nat) (hv : v < 2 ^ 64) (b : Nat) (w : World) (hp : PlicAt w b d) :
    Calls Try.prog 90 #[.pointer (some ⟨b, 0, none⟩), .int .u64 off, .int .i64 size, .int .u64 v] w fun e w' => e = .returned (.int .i64 (d.write off size v).1) ∧ PlicSet w b (d.write off size v).2 w' := by
  have same : ∀ (k : Int) (e : Ending) (w' : World), (e = .returned (.int .i64 k) ∧ w = w') → e = .returned (.int .i64 k) ∧ PlicSet w b d w' := by
    rintro k e w' ⟨rfl, rfl⟩; exact ⟨rfl, hp, grown_refl _ _⟩
  unfold Dev.write
  by_cases hs : size = 4
  · subst hs
    rw [if_pos rfl]
    rcases place_cases off with h | ⟨k, h1, h2, h⟩ | h | ⟨k, h2, h⟩ | ⟨k, h2, h⟩ | ⟨k, h2, h⟩ <;> simp only [h, Int.toNat_natCast, if_pos, if_neg, reduceIte, Int.reduceEq]
    · exact (plic_write0 off v hv h b w).mono (same 6)
    · exact plic_write1 d off v hv k h2 h b w hp
    · exact (plic_write2 off v hv h b w).mono (same 6)
    · exact plic_write3 d off v hv k h2 h b w hp
    · exact plic_write4 d off v hv k h2 h b w hp
    · by_cases hV : 1 ≤ lo32 v ∧ lo32 v ≤ 7
      · rw [if_pos hV]; exact plic_write5 d hd off v hv hV.1 hV.2 k h2 h b w hp
      · rw [if_neg hV]; exact (plic_write5n off v hv hV k h b w).mono (same 0)
  · rw [if_neg hs]
    exact (plic_write_size off size v (by simpa using hs) b w).mono (same 6)
/-- whatever is read -/
theorem plic_read_any (d : Dev) (hd : d.Ok) (off size : Int) (b : Nat) (w : World) (hp : PlicAt w b d) :
    Calls Try.prog 89 #[.pointer (some ⟨b, 0, none⟩), .int .u64 off, .int .i64 size] w fun e w' => e = .returned (.tuple #[.int .u64 ((d.read off size).1 : Nat), .int .i64 (d.read off size).2.1]) ∧ PlicSet w b (d.read off size).2.2 w' := by
  have same : ∀ (v : Nat) (k : Int) (e : Ending) (w' : World), (e = .returned (.tuple #[.int .u64 v, .int .i64 k]) ∧ w = w') → e = .returned (.tuple #[.int .u64 v, .int .i64 k]) ∧ PlicSet w b d w' := by
    rintro v k e w' ⟨rfl, rfl⟩; exact ⟨rfl, hp, grown_refl _ _⟩
  unfold Dev.read
  by_cases hs : size = 4
  · subst hs
    rw [if_pos rfl]
    rcases place_cases off with h | ⟨k, h1, h2, h⟩ | h | ⟨k, h2, h⟩ | ⟨k, h2, h⟩ | ⟨k, h2, h⟩ <;> simp only [h, Int.toNat_natCast, if_pos, if_neg, reduceIte, Int.reduceEq]
    · exact (plic_read0 off h b w).mono (same 0 6)
    · exact (plic_read1 d hd off k h2 h b w hp).mono (same _ 0)
    · exact (plic_read2 d hd off h b w hp).mono (same _ 0)
    · exact (plic_read3 d hd off k h2 h b w hp).mono (same _ 0)
    · exact (plic_read4 d hd off k h2 h b w hp).mono (same _ 0)
    · by_cases hz : d.best k = 0
      · rw [hz, if_pos rfl]
        refine (plic_read5z d hd off k h2 h b w hp hz).mono ?_
        rintro e w' ⟨rfl, n, rfl⟩
        exact ⟨rfl, hp, grown_drewN (grown_refl _ _) _⟩
      · rw [if_neg hz]; exact plic_read5 d hd off k h2 h b w hp (by omega)
  · rw [if_neg hs]
    exact (plic_read_size off size (by simpa using hs) b w).mono (same 0 6)
end Go.Proofs.Ytefcdbpmpnmkjaa
end
section
set_option linter.unusedVariables false
set_option linter.unusedSimpArgs false
namespace Go.Proofs.Ytefcdbpmpnmkjaa
open Go.RowKit

/-- the cells of block g -/
def rowOf (w : World) (g : Nat) : Array Value := match w.heap[g]? with | some (.cells c _ _) => c | _ => #[]
/-- block g has n cells, none of them frozen -/
def rowIs (w : World) (g n : Nat) : Bool := match w.heap[g]? with | some (.cells c _ (lo, hi)) => c.size == n && lo == 0 && hi == 0 | _ => false
def loadS (t : TypeId) (x : Value) : Sem Value := Instr.loadAt t x
def storeS (t : TypeId) (x v : Value) : Sem Unit := Instr.storeAt t x v
theorem rowIs_of {w : World} {g : Nat} {C : Array Value} {t : TypeId} (h : w.heap[g]? = some (.cells C t (0, 0))) : rowIs w g C.size = true := by simp [rowIs, h]
theorem rowOf_of {w : World} {g : Nat} {C : Array Value} {t : TypeId} {fz : Nat × Nat} (h : w.heap[g]? = some (.cells C t fz)) : rowOf w g = C := by simp [rowOf, h]
theorem rowIs_elim {w : World} {g n : Nat} (h : rowIs w g n = true) : ∃ t, w.heap[g]? = some (.cells (rowOf w g) t (0, 0)) ∧ (rowOf w g).size = n := by
  unfold rowIs at h
  split at h
  · rename_i c t lo hi hh
    simp at h
    obtain ⟨⟨h1, h2⟩, h3⟩ := h
    subst h2 h3
    exact ⟨t, by rw [rowOf_of hh]; exact hh, by rw [rowOf_of hh]; exact h1⟩
  · cases h
theorem run_loadS (P : Program) (ty : TypeId) (d : TypeDesc) (n : Nat) (hu : P.underlying ty = some d) (hd : (match d with | .struct _ | .array _ _ => true | _ => false) = true) (hi : (P.info? ty).map (·.size) = some n)
    (w : World) (g : Nat) (h : rowIs w g n = true) : (loadS ty (.pointer (some ⟨g, 0, none⟩))).run P w = .ok (.agg (rowOf w g)) w := by
  obtain ⟨t, hh, hs⟩ := rowIs_elim h
  have := run_loadVar_row (P := P) w g t ty (rowOf w g) (0, 0) d hh hu hd (by rw [hs]; exact hi)
  simp only [loadS, Instr.loadAt, Instr.sureAddr, Sem.run_bind, Sem.run_pure, Result.andThen_ok, this]
theorem run_storeS (P : Program) (ty : TypeId) (n : Nat) (hi : (P.info? ty).map (·.size) = some n)
    (w : World) (g : Nat) (C : Array Value) (h : rowIs w g n = true) (hC : C.size = n) (h1 : C.all (·.oneCell') = true) : (storeS ty (.pointer (some ⟨g, 0, none⟩)) (.agg C)).run P w = .ok () (w.setRow g C) := by
  obtain ⟨t, hh, hs⟩ := rowIs_elim h
  have := run_storeVar_row (P := P) w g t ty (rowOf w g) C hh (by rw [hC]; exact hi) (by rw [hC]; exact hs) h1
  simp only [storeS, Instr.storeAt, Instr.sureAddr, Sem.run_bind, Sem.run_pure, Result.andThen_ok, this]

/-! what a world's steps do to rows -/
theorem row_alloc_new (w : World) (C : Array Value) (t : TypeId) (fz : Nat × Nat) : rowOf (w.alloc (.cells C t fz)) w.heap.size = C := rowOf_of (blk_alloc w _)
theorem row_alloc_old (w : World) (o : Obj) (g : Nat) (h : g < w.heap.size) : rowOf (w.alloc o) g = rowOf w g := by unfold rowOf; rw [blk_alloc_old w o g h]
theorem row_drew (w : World) (g : Nat) : rowOf w.drew g = rowOf w g := rfl
theorem row_drewN (w : World) (n g : Nat) : rowOf (w.drewN n) g = rowOf w g := rfl
theorem is_alloc_new (w : World) (C : Array Value) (t : TypeId) (n : Nat) : rowIs (w.alloc (.cells C t)) w.heap.size n = (C.size == n) := by unfold rowIs; rw [blk_alloc]; simp
theorem is_alloc_old (w : World) (o : Obj) (g n : Nat) (h : g < w.heap.size) : rowIs (w.alloc o) g n = rowIs w g n := by unfold rowIs; rw [blk_alloc_old w o g h]
theorem is_drew (w : World) (g n : Nat) : rowIs w.drew g n = rowIs w g n := rfl
theorem is_drewN (w : World) (k g n : Nat) : rowIs (w.drewN k) g n = rowIs w g n := rfl
theorem row_setCell (w : World) (b o : Nat) (v : Value) (g : Nat) : rowOf (w.setCell ⟨b, o, none⟩ v) g = if b = g then (rowOf w g).setIfInBounds o v else rowOf w g := by
  by_cases h : b = g
  · subst h
    rw [if_pos rfl]
    unfold rowOf
    simp only [World.setCell, Array.getElem?_modify, if_true]
    cases hh : w.heap[b]? with
    | none => simp
    | some ob => cases ob <;> simp
  · rw [if_neg h]
    unfold rowOf
    rw [blk_set_ne _ _ h]
theorem is_setCell (w : World) (a : Addr) (v : Value) (g n : Nat) : rowIs (w.setCell a v) g n = rowIs w g n := by
  by_cases h : a.block = g
  · subst h
    unfold rowIs
    simp only [World.setCell, Array.getElem?_modify, if_true]
    cases hh : w.heap[a.block]? with
    | none => simp
    | some ob => cases ob <;> simp; split <;> simp
  · unfold rowIs
    rw [blk_set_ne _ _ h]
theorem row_setRow_same (w : World) (g n : Nat) (C : Array Value) (h : rowIs w g n = true) : rowOf (w.setRow g C) g = C := by
  obtain ⟨t, hh, _⟩ := rowIs_elim h
  exact rowOf_of (setRow_heap w g _ C t (0, 0) hh)
theorem row_setRow_other (w : World) (g k : Nat) (C : Array Value) (h : k ≠ g) : rowOf (w.setRow g C) k = rowOf w k := by unfold rowOf; rw [setRow_other w g k C h]
theorem is_setRow_other (w : World) (g k n : Nat) (C : Array Value) (h : k ≠ g) : rowIs (w.setRow g C) k n = rowIs w k n := by unfold rowIs; rw [setRow_other w g k C h]
theorem is_setRow_same (w : World) (g m n : Nat) (C : Array Value) (h : rowIs w g m = true) : rowIs (w.setRow g C) g n = (C.size == n) := by
  obtain ⟨t, hh, _⟩ := rowIs_elim h
  simp [rowIs, setRow_heap w g _ C t (0, 0) hh]
/-- a row stored into the block laid last: in that block's own literal -/
theorem setRow_alloc_new (w : World) (C D : Array Value) (t : TypeId) (fz : Nat × Nat) : (w.alloc (.cells C t fz)).setRow w.heap.size D = w.alloc (.cells D t fz) := by
  simp only [World.setRow, World.alloc]
  congr 1
  apply Array.ext_getElem?
  intro i
  rw [Array.getElem?_modify, Array.getElem?_push, Array.getElem?_push]
  by_cases h : w.heap.size = i
  · subst h; simp
  · rw [if_neg h, if_neg (by omega), if_neg (by omega)]
/-- the cells of an object -/
def objRow : Obj → Array Value | .cells c _ _ => c | _ => #[]
def objIs (n : Nat) : Obj → Bool | .cells c _ (lo, hi) => c.size == n && lo == 0 && hi == 0 | _ => false
theorem objRow_cells (C : Array Value) (t : TypeId) (fz : Nat × Nat) : objRow (.cells C t fz) = C := rfl
theorem objIs_cells (n : Nat) (C : Array Value) (t : TypeId) : objIs n (.cells C t) = (C.size == n) := by simp [objIs]
theorem row_alloc (w : World) (o : Obj) (g : Nat) : rowOf (w.alloc o) g = if g = w.heap.size then objRow o else rowOf w g := by
  by_cases h : g = w.heap.size
  · subst h; rw [if_pos rfl]; unfold rowOf; rw [blk_alloc]; cases o <;> rfl
  · rw [if_neg h]
    unfold rowOf
    have : (w.alloc o).heap[g]? = w.heap[g]? := by
      show (w.heap.push o)[g]? = _
      rw [Array.getElem?_push, if_neg h]
    rw [this]
theorem is_alloc (w : World) (o : Obj) (g n : Nat) : rowIs (w.alloc o) g n = if g = w.heap.size then objIs n o else rowIs w g n := by
  by_cases h : g = w.heap.size
  · subst h; rw [if_pos rfl]; unfold rowIs; rw [blk_alloc]; cases o <;> rfl
  · rw [if_neg h]
    unfold rowIs
    have : (w.alloc o).heap[g]? = w.heap[g]? := by
      show (w.heap.push o)[g]? = _
      rw [Array.getElem?_push, if_neg h]
    rw [this]
/-- each value is of one cell -/
def oneAll (C : Array Value) : Bool := C.all (·.oneCell')
/-- a row that fills n cells -/
def stOk (n : Nat) (C : Array Value) : Bool := C.size == n && C.all (·.oneCell')
theorem run_storeS' (P : Program) (ty : TypeId) (n : Nat) (hi : (P.info? ty).map (·.size) = some n)
    (w : World) (g : Nat) (C : Array Value) (h : rowIs w g n = true) (hC : stOk n C = true) : (storeS ty (.pointer (some ⟨g, 0, none⟩)) (.agg C)).run P w = .ok () (w.setRow g C) := by
  simp only [stOk, Bool.and_eq_true, beq_iff_eq] at hC
  exact run_storeS P ty n hi w g C h hC.1 hC.2
theorem run_loadV (P : Program) (ty : TypeId) (d : TypeDesc) (n : Nat) (hu : P.underlying ty = some d) (hd : (match d with | .struct _ | .array _ _ => true | _ => false) = true) (hi : (P.info? ty).map (·.size) = some n)
    (w : World) (g : Nat) (C : Array Value) (h : rowIs w g n = true) (hC : rowOf w g = C) : (loadVar ty ⟨g, 0, none⟩).run P w = .ok (.agg C) w := by
  obtain ⟨t, hh, hs⟩ := rowIs_elim h
  have := run_loadVar_row (P := P) w g t ty (rowOf w g) (0, 0) d hh hu hd (by rw [hs]; exact hi)
  rw [this, hC]
section
variable {fn : Func} {a p b : Tmp} {ty : TypeId} (tmps : Array Value) (P : Program) (w : World) (g : Nat) (C : Array Value)
  (hp : tmps.getD p undef = .pointer (some ⟨g, 0, none⟩)) (hl : (loadVar ty ⟨g, 0, none⟩).run P w = .ok (.agg C) w)
include hp hl
theorem res_c (h : fn.results = #[.cell p ty]) : (results fn tmps).run P w = .ok (.agg C) w := by
  have hp' : tmps[p]?.getD undef = .pointer (some ⟨g, 0, none⟩) := by simpa using hp
  simp [results, h, hp', asAddr, hl]
theorem res_ct (h : fn.results = #[.cell p ty, .tmp b]) : (results fn tmps).run P w = .ok (.tuple #[.agg C, tmps.getD b undef]) w := by
  have hp' : tmps[p]?.getD undef = .pointer (some ⟨g, 0, none⟩) := by simpa using hp
  simp [results, h, hp', asAddr, hl]
theorem res_tct (h : fn.results = #[.tmp a, .cell p ty, .tmp b]) : (results fn tmps).run P w = .ok (.tuple #[tmps.getD a undef, .agg C, tmps.getD b undef]) w := by
  have hp' : tmps[p]?.getD undef = .pointer (some ⟨g, 0, none⟩) := by simpa using hp
  simp [results, h, hp', asAddr, hl]
end
/-! quiet calls behind draws -/
theorem q_same {P : Program} {f : FuncId} {args : Array Value} {w : World} {a n : Nat} {v : Value} (h : Calls P f args (w.drewN (a + n)) fun e w' => e = .returned v ∧ w' = w.drewN (a + n)) :
    Calls P f args (w.drewN (a + n)) fun e w' => e = .returned v ∧ ∃ m, w' = w.drewN (a + m) := h.mono fun _ _ hh => ⟨hh.1, n, hh.2⟩
theorem q_draws {P : Program} {f : FuncId} {args : Array Value} {w : World} {a n : Nat} {v : Value} (h : Calls P f args (w.drewN (a + n)) fun e w' => e = .returned v ∧ ∃ m, w' = (w.drewN (a + n)).drewN m) :
    Calls P f args (w.drewN (a + n)) fun e w' => e = .returned v ∧ ∃ m, w' = w.drewN (a + m) := h.mono fun _ _ hh => by
  obtain ⟨h1, m, h2⟩ := hh
  exact ⟨h1, n + m, by rw [h2, World.drewN_drewN, Nat.add_assoc]⟩
end Go.Proofs.Ytefcdbpmpnmkjaa
end
section
set_option linter.unusedVariables false
set_option linter.unusedSimpArgs false
namespace Go.Proofs.Ytefcdbpmpnmkjaa
open Go.RowKit

theorem ld_dev (x : Value) : Instr.loadAt 57 x = loadS 57 x := rfl
theorem lv_dev (w : World) (g : Nat) (C : Array Value) (h : rowIs w g 22 = true) (hC : rowOf w g = C) : (loadVar 57 ⟨g, 0, none⟩).run Try.prog w = .ok (.agg C) w :=
  run_loadV Try.prog 57 _ 22 Try.underlying57 rfl (by kernel_rfl) w g C h hC
theorem st_dev (x v : Value) : Instr.storeAt 57 x v = storeS 57 x v := rfl
theorem rl_dev (w : World) (g : Nat) (h : rowIs w g 22 = true) : (loadS 57 (.pointer (some ⟨g, 0, none⟩))).run Try.prog w = .ok (.agg (rowOf w g)) w :=
  run_loadS Try.prog 57 _ 22 Try.underlying57 rfl (by kernel_rfl) w g h
theorem rs_dev (w : World) (g : Nat) (C : Array Value) (h : rowIs w g 22 = true) (hC : stOk 22 C = true) : (storeS 57 (.pointer (some ⟨g, 0, none⟩)) (.agg C)).run Try.prog w = .ok () (w.setRow g C) :=
  run_storeS' Try.prog 57 22 (by kernel_rfl) w g C h hC
theorem ld_plc (x : Value) : Instr.loadAt 104 x = loadS 104 x := rfl
theorem lv_plc (w : World) (g : Nat) (C : Array Value) (h : rowIs w g 22 = true) (hC : rowOf w g = C) : (loadVar 104 ⟨g, 0, none⟩).run Try.prog w = .ok (.agg C) w :=
  run_loadV Try.prog 104 _ 22 Try.underlying104 rfl (by kernel_rfl) w g C h hC
theorem st_plc (x v : Value) : Instr.storeAt 104 x v = storeS 104 x v := rfl
theorem rl_plc (w : World) (g : Nat) (h : rowIs w g 22 = true) : (loadS 104 (.pointer (some ⟨g, 0, none⟩))).run Try.prog w = .ok (.agg (rowOf w g)) w :=
  run_loadS Try.prog 104 _ 22 Try.underlying104 rfl (by kernel_rfl) w g h
theorem rs_plc (w : World) (g : Nat) (C : Array Value) (h : rowIs w g 22 = true) (hC : stOk 22 C = true) : (storeS 104 (.pointer (some ⟨g, 0, none⟩)) (.agg C)).run Try.prog w = .ok () (w.setRow g C) :=
  run_storeS' Try.prog 104 22 (by kernel_rfl) w g C h hC
theorem Dev.size_cells (d : Dev) : d.cells.size = 22 := rfl
theorem Dev.st_ok (d : Dev) : stOk 22 d.cells = true := by simp [stOk, Dev.cells, Value.oneCell']
theorem Dev.c0 (d : Dev) : d.cells[0]? = some (.bool d.msip) := rfl
theorem Dev.c1 (d : Dev) : d.cells[1]? = some (.int .u64 d.mtime) := rfl
theorem Dev.c2 (d : Dev) : d.cells[2]? = some (.int .u64 d.cmp) := rfl
theorem Dev.c3 (d : Dev) : d.cells[3]? = some (.int .u32 (d.pr 0)) := rfl
theorem Dev.c4 (d : Dev) : d.cells[4]? = some (.int .u32 (d.pr 1)) := rfl
theorem Dev.c5 (d : Dev) : d.cells[5]? = some (.int .u32 (d.pr 2)) := rfl
theorem Dev.c6 (d : Dev) : d.cells[6]? = some (.int .u32 (d.pr 3)) := rfl
theorem Dev.c7 (d : Dev) : d.cells[7]? = some (.int .u32 (d.pr 4)) := rfl
theorem Dev.c8 (d : Dev) : d.cells[8]? = some (.int .u32 (d.pr 5)) := rfl
theorem Dev.c9 (d : Dev) : d.cells[9]? = some (.int .u32 (d.pr 6)) := rfl
theorem Dev.c10 (d : Dev) : d.cells[10]? = some (.int .u32 (d.pr 7)) := rfl
theorem Dev.c11 (d : Dev) : d.cells[11]? = some (.int .u32 d.pend) := rfl
theorem Dev.c12 (d : Dev) : d.cells[12]? = some (.int .u32 d.cla) := rfl
theorem Dev.c13 (d : Dev) : d.cells[13]? = some (.int .u32 (d.en 0)) := rfl
theorem Dev.c14 (d : Dev) : d.cells[14]? = some (.int .u32 (d.en 1)) := rfl
theorem Dev.c15 (d : Dev) : d.cells[15]? = some (.int .u32 (d.th 0)) := rfl
theorem Dev.c16 (d : Dev) : d.cells[16]? = some (.int .u32 (d.th 1)) := rfl
theorem Dev.c17 (d : Dev) : d.cells[17]? = some (.int .u32 d.lines) := rfl
theorem Dev.c18 (d : Dev) : d.cells[18]? = some (.slice d.rxa d.rxl d.rxc) := rfl
theorem Dev.c19 (d : Dev) : d.cells[19]? = some (.slice d.txa d.txl d.txc) := rfl
theorem Dev.c20 (d : Dev) : d.cells[20]? = some (.int .u32 d.uen) := rfl
theorem Dev.c21 (d : Dev) : d.cells[21]? = some (.bool d.lost) := rfl
theorem lvs_dev (w : World) (g : Nat) (C : Array Value) (h : rowIs w g 22 = true) (hC : C.size = 22) : (loadVar 57 ⟨g, 0, none⟩).run Try.prog (w.setRow g C) = .ok (.agg C) (w.setRow g C) :=
  lv_dev _ _ _ (by rw [is_setRow_same _ _ 22 _ _ h, hC]; rfl) (row_setRow_same _ _ 22 _ h)
end Go.Proofs.Ytefcdbpmpnmkjaa
end
section
set_option linter.unusedVariables false
set_option linter.unusedSimpArgs false
namespace Go.Proofs.Ytefcdbpmpnmkjaa
open Go.RowKit
attribute [local go_sem ↓] ld_dev  ld_plc st_dev  st_plc
attribute [local go_sem] rl_dev  rl_plc rs_dev  rs_plc Dev.size_cells Dev.st_ok Dev.c0 Dev.c1 Dev.c2 Dev.c3 Dev.c4 Dev.c5 Dev.c6 Dev.c7 Dev.c8 Dev.c9 Dev.c10 Dev.c11 Dev.c12 Dev.c13 Dev.c14 Dev.c15 Dev.c16 Dev.c17 Dev.c18 Dev.c19 Dev.c20 Dev.c21 Dev.set_pend Dev.set_cla row_alloc row_drew row_drewN is_alloc is_drew is_drewN row_setCell is_setCell setRow_alloc_new objRow_cells objIs_cells row_setRow_same row_setRow_other is_setRow_same is_setRow_other
end Go.Proofs.Ytefcdbpmpnmkjaa
end
section
set_option linter.unusedVariables false
set_option linter.unusedSimpArgs false
namespace Go.Proofs.Ytefcdbpmpnmkjaa
open Go.RowKit
/-- sources 1 .. n of the levels l, but those of c, join p -/
def tickTo (p l c : Nat) : Nat → Nat
  | 0 => p
  | n + 1 => if l.testBit (n + 1) && !c.testBit (n + 1) then tickTo p l c n ||| pow2 (n + 1) else tickTo p l c n
theorem tickTo_lt (p l c : Nat) (hp : p < 2 ^ 32) : ∀ n, n ≤ 7 → tickTo p l c n < 2 ^ 32
  | 0, _ => hp
  | n + 1, h => by
    unfold tickTo
    split
    · exact Nat.or_lt_two_pow (tickTo_lt p l c hp n (by omega)) (pow2_lt h)
    · exact tickTo_lt p l c hp n (by omega)
theorem andNot32_bit (a b i : Nat) (hb : b < 2 ^ 32) (hi : i < 32) : (andNot32 a b).testBit i = (a.testBit i && !b.testBit i) := by
  unfold andNot32
  rw [Nat.testBit_and, show 4294967295 - b = 2 ^ 32 - (b + 1) by omega, Nat.testBit_two_pow_sub_succ hb]
  simp [hi]
theorem tickTo_bit (p l c : Nat) (i : Nat) : ∀ n, (tickTo p l c n).testBit i = (p.testBit i || (decide (1 ≤ i ∧ i ≤ n) && (l.testBit i && !c.testBit i)))
  | 0 => by
    have : ¬ (1 ≤ i ∧ i ≤ 0) := by omega
    rw [decide_eq_false this]; simp [tickTo]
  | n + 1 => by
    unfold tickTo
    have ih := tickTo_bit p l c i n
    by_cases hi : i = n + 1
    · subst hi
      have h1 : ¬ (1 ≤ n + 1 ∧ n + 1 ≤ n) := by omega
      have h2 : (1 ≤ n + 1 ∧ n + 1 ≤ n + 1) := by omega
      rw [decide_eq_false h1] at ih
      rw [decide_eq_true h2]
      split
      · rename_i h
        rw [Nat.testBit_or, ih]
        simp [pow2, h]
      · rename_i h
        rw [ih]
        simp only [Bool.not_eq_true] at h
        rw [h]
        rfl
    · have e : decide (1 ≤ i ∧ i ≤ n + 1) = decide (1 ≤ i ∧ i ≤ n) := by
        by_cases h : 1 ≤ i ∧ i ≤ n
        · rw [decide_eq_true h, decide_eq_true (by omega)]
        · rw [decide_eq_false h, decide_eq_false (by omega)]
      rw [e]
      split
      · rw [Nat.testBit_or, ih]
        have : (pow2 (n + 1)).testBit i = false := by unfold pow2; rw [Nat.testBit_two_pow]; simp; omega
        simp [this]
      · exact ih
theorem m254_bit (i : Nat) : (254 : Nat).testBit i = decide (1 ≤ i ∧ i ≤ 7) := by
  by_cases h : i < 8
  · have : i = 0 ∨ i = 1 ∨ i = 2 ∨ i = 3 ∨ i = 4 ∨ i = 5 ∨ i = 6 ∨ i = 7 := by omega
    rcases this with rfl | rfl | rfl | rfl | rfl | rfl | rfl | rfl <;> decide
  · rw [decide_eq_false (by omega)]
    exact Nat.testBit_lt_two_pow (Nat.lt_of_lt_of_le (by omega) (Nat.pow_le_pow_right (by omega) (show 8 ≤ i by omega)))
theorem tick_all (d : Dev) (hd : d.Ok) (l : Nat) (hl : l < 2 ^ 32) : tickTo d.pend l d.cla 7 = (d.tick l).pend := by
  unfold Dev.tick
  apply Nat.eq_of_testBit_eq
  intro i
  rw [tickTo_bit]
  simp only [Nat.testBit_or]
  by_cases hi : i < 32
  · rw [andNot32_bit _ _ _ hd.cla hi, Nat.testBit_and, m254_bit]
    cases d.pend.testBit i <;> cases l.testBit i <;> cases d.cla.testBit i <;> cases (decide (1 ≤ i ∧ i ≤ 7)) <;> rfl
  · have h1 : (andNot32 (l &&& 254) d.cla).testBit i = false := Nat.testBit_lt_two_pow (Nat.lt_of_lt_of_le (andNot32_lt _ (and_lt32 _ hl)) (Nat.pow_le_pow_right (by omega) (by omega)))
    rw [h1, decide_eq_false (by omega)]
    rfl
/-- a source that is completed: looked at first, or not -/
theorem complete_eq (d : Dev) (hd : d.Ok) (k s : Nat) (hk : k < 2) (hs : s ≤ 7) : andNot32 d.cla (d.en k &&& pow2 s) = if (d.cla &&& d.en k).testBit s then andNot32 d.cla (pow2 s) else d.cla := by
  have hp := pow2_lt hs
  apply Nat.eq_of_testBit_eq
  intro i
  by_cases hi : i < 32
  · rw [andNot32_bit _ _ _ (and_lt32 _ (hd.en k hk)) hi, Nat.testBit_and]
    by_cases his : i = s
    · subst his
      have hps : (pow2 i).testBit i = true := by simp [pow2]
      split
      · rename_i h
        rw [Nat.testBit_and] at h
        rw [andNot32_bit _ _ _ hp hi, hps]
        cases h1 : d.cla.testBit i <;> cases h2 : (d.en k).testBit i <;> simp_all
      · rename_i h
        rw [Nat.testBit_and] at h
        rw [hps]
        cases h1 : d.cla.testBit i <;> cases h2 : (d.en k).testBit i <;> simp_all
    · have hps : (pow2 s).testBit i = false := by unfold pow2; rw [Nat.testBit_two_pow]; simp; omega
      rw [hps]
      split
      · rw [andNot32_bit _ _ _ hp hi, hps]; simp
      · simp
  · have big : ∀ x, x < 2 ^ 32 → x.testBit i = false := fun x hx => Nat.testBit_lt_two_pow (Nat.lt_of_lt_of_le hx (Nat.pow_le_pow_right (by omega) (by omega)))
    rw [big _ (andNot32_lt _ hd.cla)]
    split
    · rw [big _ (andNot32_lt _ hd.cla)]
    · rw [big _ hd.cla]
end Go.Proofs.Ytefcdbpmpnmkjaa
end
section
set_option linter.unusedVariables false
set_option linter.unusedSimpArgs false
namespace Go.Proofs.Ytefcdbpmpnmkjaa
open Go.RowKit
attribute [local go_sem ↓] ld_dev  ld_plc st_dev  st_plc
attribute [local go_sem] rl_dev  rl_plc rs_dev  rs_plc Dev.size_cells Dev.st_ok Dev.c0 Dev.c1 Dev.c2 Dev.c3 Dev.c4 Dev.c5 Dev.c6 Dev.c7 Dev.c8 Dev.c9 Dev.c10 Dev.c11 Dev.c12 Dev.c13 Dev.c14 Dev.c15 Dev.c16 Dev.c17 Dev.c18 Dev.c19 Dev.c20 Dev.c21 Dev.set_pend Dev.set_cla row_alloc row_drew row_drewN is_alloc is_drew is_drewN row_setCell is_setCell setRow_alloc_new objRow_cells objIs_cells row_setRow_same row_setRow_other is_setRow_same is_setRow_other
/-- the PLIC d, handed back as a value; nothing that was there has turned -/
def RefIs (w : World) (d : Dev) (e : Ending) (w' : World) : Prop := e = .returned (.agg d.cells) ∧ Below w.heap.size w w'
theorem pend_eq (d : Dev) (p q : Nat) (h : p = q) : ({ d with pend := p } : Dev).cells = ({ d with pend := q } : Dev).cells := by rw [h]
end Go.Proofs.Ytefcdbpmpnmkjaa
end
section
set_option linter.unusedVariables false
set_option linter.unusedSimpArgs false
namespace Go.Proofs.Ytefcdbpmpnmkjaa
open Go.RowKit
attribute [local go_sem ↓] ld_dev  ld_plc st_dev  st_plc
attribute [local go_sem] rl_dev  rl_plc rs_dev  rs_plc Dev.size_cells Dev.st_ok Dev.c0 Dev.c1 Dev.c2 Dev.c3 Dev.c4 Dev.c5 Dev.c6 Dev.c7 Dev.c8 Dev.c9 Dev.c10 Dev.c11 Dev.c12 Dev.c13 Dev.c14 Dev.c15 Dev.c16 Dev.c17 Dev.c18 Dev.c19 Dev.c20 Dev.c21 Dev.set_pend Dev.set_cla row_alloc row_drew row_drewN is_alloc is_drew is_drewN row_setCell is_setCell setRow_alloc_new objRow_cells objIs_cells row_setRow_same row_setRow_other is_setRow_same is_setRow_other
/-- a number, the PLIC d as a value, an error; nothing that was there has turned -/
def RefRead (w : World) (v : Nat) (d : Dev) (k : Int) (e : Ending) (w' : World) : Prop := e = .returned (.tuple #[.int .u64 v, .agg d.cells, .int .i64 k]) ∧ Below w.heap.size w w'
theorem base2 (w : World) (a b : Obj) : Below w.heap.size w ((w.alloc a).alloc b) := ((Below.refl _ _).alloc (Nat.le_refl _) _).alloc (by simp) _
end Go.Proofs.Ytefcdbpmpnmkjaa
end
section
set_option linter.unusedVariables false
set_option linter.unusedSimpArgs false
namespace Go.Proofs.Ytefcdbpmpnmkjaa
open Go.RowKit
attribute [local go_sem ↓] ld_dev  ld_plc st_dev  st_plc
attribute [local go_sem] rl_dev  rl_plc rs_dev  rs_plc Dev.size_cells Dev.st_ok Dev.c0 Dev.c1 Dev.c2 Dev.c3 Dev.c4 Dev.c5 Dev.c6 Dev.c7 Dev.c8 Dev.c9 Dev.c10 Dev.c11 Dev.c12 Dev.c13 Dev.c14 Dev.c15 Dev.c16 Dev.c17 Dev.c18 Dev.c19 Dev.c20 Dev.c21 Dev.set_pend Dev.set_cla row_alloc row_drew row_drewN is_alloc is_drew is_drewN row_setCell is_setCell setRow_alloc_new objRow_cells objIs_cells row_setRow_same row_setRow_other is_setRow_same is_setRow_other
/-- an error, the PLIC d as a value; nothing that was there has turned -/
def RefWrote (w : World) (d : Dev) (k : Int) (e : Ending) (w' : World) : Prop := e = .returned (.tuple #[.agg d.cells, .int .i64 k]) ∧ Below w.heap.size w w'
end Go.Proofs.Ytefcdbpmpnmkjaa
end
section
set_option linter.unusedVariables false
set_option linter.unusedSimpArgs false
namespace Go.Proofs.Ytefcdbpmpnmkjaa
open Go.RowKit
attribute [local go_sem ↓] ld_dev  ld_plc st_dev  st_plc
attribute [local go_sem] rl_dev  rl_plc rs_dev  rs_plc Dev.size_cells Dev.st_ok Dev.c0 Dev.c1 Dev.c2 Dev.c3 Dev.c4 Dev.c5 Dev.c6 Dev.c7 Dev.c8 Dev.c9 Dev.c10 Dev.c11 Dev.c12 Dev.c13 Dev.c14 Dev.c15 Dev.c16 Dev.c17 Dev.c18 Dev.c19 Dev.c20 Dev.c21 Dev.set_pend Dev.set_cla row_alloc row_drew row_drewN is_alloc is_drew is_drewN row_setCell is_setCell setRow_alloc_new objRow_cells objIs_cells row_setRow_same row_setRow_other is_setRow_same is_setRow_other
/-- the lines that are up -/
def Dev.lns (d : Dev) : Nat := (if d.th 0 < d.pr (d.best 0) then 2048 else 0) ||| (if d.th 1 < d.pr (d.best 1) then 512 else 0)
set_option maxRecDepth 100000 in
set_option maxHeartbeats 2000000 in
theorem plic_new (w : World) : Calls Try.prog 23 #[] w fun e w' => e = .returned (.pointer (some ⟨w.heap.size, 0, none⟩)) ∧ w' = w.alloc (.cells (Dev.cells ⟨false, 0, 0, fun _ => 0, 0, 0, fun _ => 0, fun _ => 0, 0, none, 0, 0, none, 0, 0, 0, false⟩) 104) := by
  go_enter Try.func23, Try.ntmps23
  go_wp2
  go_ret
  exact ⟨rfl, rfl⟩
set_option maxRecDepth 100000 in
set_option maxHeartbeats 2000000 in
theorem plic_state (d : Dev) (b : Nat) (w : World) (hp : PlicAt w b d) : Calls Try.prog 47 #[.pointer (some ⟨b, 0, none⟩)] w (RefIs w d) := by
  have hb : b < w.heap.size := blk_lt hp
  have hr0 : rowIs w b 22 = true := rowIs_of hp
  have hr1 : rowOf w b = d.cells := rowOf_of hp
  have hne : ¬ b = w.heap.size := by omega
  go_enter Try.func47, Try.ntmps47
  go_wp2
  exact bodyPost_ret (res_c _ _ (w.alloc (.cells d.cells 57)) w.heap.size d.cells rfl (lv_dev _ _ _ (by rw [is_alloc, if_pos rfl]; rfl) (by rw [row_alloc, if_pos rfl]; rfl)) rfl) rfl ⟨rfl, (Below.refl _ _).alloc (Nat.le_refl _) _⟩
set_option maxRecDepth 100000 in
set_option maxHeartbeats 2000000 in
theorem plic_state_nil (w : World) : Calls Try.prog 47 #[.pointer none] w (RefIs w ⟨false, 0, 0, fun _ => 0, 0, 0, fun _ => 0, fun _ => 0, 0, none, 0, 0, none, 0, 0, 0, false⟩) := by
  have hz : stOk 22 #[.bool false, .int .u64 0, .int .u64 0, .int .u32 0, .int .u32 0, .int .u32 0, .int .u32 0, .int .u32 0, .int .u32 0, .int .u32 0, .int .u32 0, .int .u32 0, .int .u32 0, .int .u32 0, .int .u32 0, .int .u32 0, .int .u32 0, .int .u32 0, .slice none 0 0, .slice none 0 0, .int .u32 0, .bool false] = true := by simp [stOk, Value.oneCell']
  go_enter Try.func47, Try.ntmps47
  go_wp2
  exact bodyPost_ret (res_c _ _ (w.alloc (.cells #[.bool false, .int .u64 0, .int .u64 0, .int .u32 0, .int .u32 0, .int .u32 0, .int .u32 0, .int .u32 0, .int .u32 0, .int .u32 0, .int .u32 0, .int .u32 0, .int .u32 0, .int .u32 0, .int .u32 0, .int .u32 0, .int .u32 0, .int .u32 0, .slice none 0 0, .slice none 0 0, .int .u32 0, .bool false] 57)) w.heap.size _ rfl (lv_dev _ _ _ (by rw [is_alloc, if_pos rfl]; rfl) (by rw [row_alloc, if_pos rfl]; rfl)) rfl) rfl ⟨rfl, (Below.refl _ _).alloc (Nat.le_refl _) _⟩
theorem ln_i0 (w : World) : (Instr.index 120 (.agg #[Value.int IntKind.i64 11, Value.int IntKind.i64 9]) (.int .i64 0)).run Try.prog w = .ok (.int .i64 11) w := by kernel_rfl
theorem ln_i1 (w : World) : (Instr.index 120 (.agg #[Value.int IntKind.i64 11, Value.int IntKind.i64 9]) (.int .i64 1)).run Try.prog w = .ok (.int .i64 9) w := by kernel_rfl
set_option maxRecDepth 100000 in
set_option maxHeartbeats 4000000 in
theorem plic_lines00 (d : Dev) (hd : d.Ok) (b : Nat) (w : World) (hp : PlicAt w b d) (t0 : ¬ d.th 0 < d.pr (d.best 0)) (t1 : ¬ d.th 1 < d.pr (d.best 1)) : Calls Try.prog 38 #[.pointer (some ⟨b, 0, none⟩)] w fun e w' => e = .returned (.int .u64 (0 : Int)) ∧ ∃ n, w' = w.drewN n := by
  have hb0 : Hid (∀ w, PlicAt w b d → Calls Try.prog 62 #[.pointer (some ⟨b, 0, none⟩), .int .i64 0] w fun e w' => e = .returned (.int .i64 (d.best 0)) ∧ ∃ n, w' = w.drewN n) := fun w h => plic_best d hd b 0 (by omega) w h
  have hb1 : Hid (∀ w, PlicAt w b d → Calls Try.prog 62 #[.pointer (some ⟨b, 0, none⟩), .int .i64 1] w fun e w' => e = .returned (.int .i64 (d.best 1)) ∧ ∃ n, w' = w.drewN n) := fun w h => plic_best d hd b 1 (by omega) w h
  have l0 := d.best_le 0
  have l1 := d.best_le 1
  generalize d.best 0 = s0 at *
  generalize d.best 1 = s1 at *
  have c0 : w.cell? ⟨b, 3 + s0, none⟩ = some (.int .u32 (d.pr s0)) := (blk_cell hp _).trans (d.cell_pr _ (by omega))
  have c1 : w.cell? ⟨b, 3 + s1, none⟩ = some (.int .u32 (d.pr s1)) := (blk_cell hp _).trans (d.cell_pr _ (by omega))
  have c2 : w.cell? ⟨b, 15, none⟩ = some (.int .u32 (d.th 0)) := blk_cell hp 15
  have c3 : w.cell? ⟨b, 16, none⟩ = some (.int .u32 (d.th 1)) := blk_cell hp 16
  have l0' : (s0 : Int) < 8 := by omega
  have l1' : (s1 : Int) < 8 := by omega
  have T0 : ¬ ((d.th 0 : Int) < d.pr s0) := by omega
  have T1 : ¬ ((d.th 1 : Int) < d.pr s1) := by omega
  have HP := Lib.hid hp
  clear hp hd l0 l1 t0 t1
  have i0 := ln_i0
  have i1 := ln_i1
  go_enter Try.func38, Try.ntmps38
  go_wp2_with fail
  refine wp_loop_rounds 3 ?_
  rw [rounds_succ]
  go_wp2_with fail
  go_quiet ((go_at_call 62; exact Calls.quiet_of (hb0.out _ HP.out)))
  go_wp2_with fail
  rw [rounds_succ]
  go_wp2_with fail
  go_quiet ((go_at_call 62; exact q_draws (hb1.out _ HP.out)))
  go_wp2_with fail
  rw [rounds_succ]
  go_wp2_with fail
  go_ret
  exact ⟨rfl, _, rfl⟩
set_option maxRecDepth 100000 in
set_option maxHeartbeats 4000000 in
theorem plic_lines01 (d : Dev) (hd : d.Ok) (b : Nat) (w : World) (hp : PlicAt w b d) (t0 : ¬ d.th 0 < d.pr (d.best 0)) (t1 : d.th 1 < d.pr (d.best 1)) : Calls Try.prog 38 #[.pointer (some ⟨b, 0, none⟩)] w fun e w' => e = .returned (.int .u64 (512 : Int)) ∧ ∃ n, w' = w.drewN n := by
  have hb0 : Hid (∀ w, PlicAt w b d → Calls Try.prog 62 #[.pointer (some ⟨b, 0, none⟩), .int .i64 0] w fun e w' => e = .returned (.int .i64 (d.best 0)) ∧ ∃ n, w' = w.drewN n) := fun w h => plic_best d hd b 0 (by omega) w h
  have hb1 : Hid (∀ w, PlicAt w b d → Calls Try.prog 62 #[.pointer (some ⟨b, 0, none⟩), .int .i64 1] w fun e w' => e = .returned (.int .i64 (d.best 1)) ∧ ∃ n, w' = w.drewN n) := fun w h => plic_best d hd b 1 (by omega) w h
  have l0 := d.best_le 0
  have l1 := d.best_le 1
  generalize d.best 0 = s0 at *
  generalize d.best 1 = s1 at *
  have c0 : w.cell? ⟨b, 3 + s0, none⟩ = some (.int .u32 (d.pr s0)) := (blk_cell hp _).trans (d.cell_pr _ (by omega))
  have c1 : w.cell? ⟨b, 3 + s1, none⟩ = some (.int .u32 (d.pr s1)) := (blk_cell hp _).trans (d.cell_pr _ (by omega))
  have c2 : w.cell? ⟨b, 15, none⟩ = some (.int .u32 (d.th 0)) := blk_cell hp 15
  have c3 : w.cell? ⟨b, 16, none⟩ = some (.int .u32 (d.th 1)) := blk_cell hp 16
  have l0' : (s0 : Int) < 8 := by omega
  have l1' : (s1 : Int) < 8 := by omega
  have T0 : ¬ ((d.th 0 : Int) < d.pr s0) := by omega
  have T1 : (d.th 1 : Int) < d.pr s1 := by omega
  have HP := Lib.hid hp
  clear hp hd l0 l1 t0 t1
  have i0 := ln_i0
  have i1 := ln_i1
  go_enter Try.func38, Try.ntmps38
  go_wp2_with fail
  refine wp_loop_rounds 3 ?_
  rw [rounds_succ]
  go_wp2_with fail
  go_quiet ((go_at_call 62; exact Calls.quiet_of (hb0.out _ HP.out)))
  go_wp2_with fail
  rw [rounds_succ]
  go_wp2_with fail
  go_quiet ((go_at_call 62; exact q_draws (hb1.out _ HP.out)))
  go_wp2_with fail
  rw [rounds_succ]
  go_wp2_with fail
  go_ret
  exact ⟨rfl, _, rfl⟩
set_option maxRecDepth 100000 in
set_option maxHeartbeats 4000000 in
theorem plic_lines10 (d : Dev) (hd : d.Ok) (b : Nat) (w : World) (hp : PlicAt w b d) (t0 : d.th 0 < d.pr (d.best 0)) (t1 : ¬ d.th 1 < d.pr (d.best 1)) : Calls Try.prog 38 #[.pointer (some ⟨b, 0, none⟩)] w fun e w' => e = .returned (.int .u64 (2048 : Int)) ∧ ∃ n, w' = w.drewN n := by
  have hb0 : Hid (∀ w, PlicAt w b d → Calls Try.prog 62 #[.pointer (some ⟨b, 0, none⟩), .int .i64 0] w fun e w' => e = .returned (.int .i64 (d.best 0)) ∧ ∃ n, w' = w.drewN n) := fun w h => plic_best d hd b 0 (by omega) w h
  have hb1 : Hid (∀ w, PlicAt w b d → Calls Try.prog 62 #[.pointer (some ⟨b, 0, none⟩), .int .i64 1] w fun e w' => e = .returned (.int .i64 (d.best 1)) ∧ ∃ n, w' = w.drewN n) := fun w h => plic_best d hd b 1 (by omega) w h
  have l0 := d.best_le 0
  have l1 := d.best_le 1
  generalize d.best 0 = s0 at *
  generalize d.best 1 = s1 at *
  have c0 : w.cell? ⟨b, 3 + s0, none⟩ = some (.int .u32 (d.pr s0)) := (blk_cell hp _).trans (d.cell_pr _ (by omega))
  have c1 : w.cell? ⟨b, 3 + s1, none⟩ = some (.int .u32 (d.pr s1)) := (blk_cell hp _).trans (d.cell_pr _ (by omega))
  have c2 : w.cell? ⟨b, 15, none⟩ = some (.int .u32 (d.th 0)) := blk_cell hp 15
  have c3 : w.cell? ⟨b, 16, none⟩ = some (.int .u32 (d.th 1)) := blk_cell hp 16
  have l0' : (s0 : Int) < 8 := by omega
  have l1' : (s1 : Int) < 8 := by omega
  have T0 : (d.th 0 : Int) < d.pr s0 := by omega
  have T1 : ¬ ((d.th 1 : Int) < d.pr s1) := by omega
  have HP := Lib.hid hp
  clear hp hd l0 l1 t0 t1
  have i0 := ln_i0
  have i1 := ln_i1
  go_enter Try.func38, Try.ntmps38
  go_wp2_with fail
  refine wp_loop_rounds 3 ?_
  rw [rounds_succ]
  go_wp2_with fail
  go_quiet ((go_at_call 62; exact Calls.quiet_of (hb0.out _ HP.out)))
  go_wp2_with fail
  rw [rounds_succ]
  go_wp2_with fail
  go_quiet ((go_at_call 62; exact q_draws (hb1.out _ HP.out)))
  go_wp2_with fail
  rw [rounds_succ]
  go_wp2_with fail
  go_ret
  exact ⟨rfl, _, rfl⟩
set_option maxRecDepth 100000 in
set_option maxHeartbeats 4000000 in
theorem plic_lines11 (d : Dev) (hd : d.Ok) (b : Nat) (w : World) (hp : PlicAt w b d) (t0 : d.th 0 < d.pr (d.best 0)) (t1 : d.th 1 < d.pr (d.best 1)) : Calls Try.prog 38 #[.pointer (some ⟨b, 0, none⟩)] w fun e w' => e = .returned (.int .u64 (2560 : Int)) ∧ ∃ n, w' = w.drewN n := by
  have hb0 : Hid (∀ w, PlicAt w b d → Calls Try.prog 62 #[.pointer (some ⟨b, 0, none⟩), .int .i64 0] w fun e w' => e = .returned (.int .i64 (d.best 0)) ∧ ∃ n, w' = w.drewN n) := fun w h => plic_best d hd b 0 (by omega) w h
  have hb1 : Hid (∀ w, PlicAt w b d → Calls Try.prog 62 #[.pointer (some ⟨b, 0, none⟩), .int .i64 1] w fun e w' => e = .returned (.int .i64 (d.best 1)) ∧ ∃ n, w' = w.drewN n) := fun w h => plic_best d hd b 1 (by omega) w h
  have l0 := d.best_le 0
  have l1 := d.best_le 1
  generalize d.best 0 = s0 at *
  generalize d.best 1 = s1 at *
  have c0 : w.cell? ⟨b, 3 + s0, none⟩ = some (.int .u32 (d.pr s0)) := (blk_cell hp _).trans (d.cell_pr _ (by omega))
  have c1 : w.cell? ⟨b, 3 + s1, none⟩ = some (.int .u32 (d.pr s1)) := (blk_cell hp _).trans (d.cell_pr _ (by omega))
  have c2 : w.cell? ⟨b, 15, none⟩ = some (.int .u32 (d.th 0)) := blk_cell hp 15
  have c3 : w.cell? ⟨b, 16, none⟩ = some (.int .u32 (d.th 1)) := blk_cell hp 16
  have l0' : (s0 : Int) < 8 := by omega
  have l1' : (s1 : Int) < 8 := by omega
  have T0 : (d.th 0 : Int) < d.pr s0 := by omega
  have T1 : (d.th 1 : Int) < d.pr s1 := by omega
  have HP := Lib.hid hp
  clear hp hd l0 l1 t0 t1
  have i0 := ln_i0
  have i1 := ln_i1
  go_enter Try.func38, Try.ntmps38
  go_wp2_with fail
  refine wp_loop_rounds 3 ?_
  rw [rounds_succ]
  go_wp2_with fail
  go_quiet ((go_at_call 62; exact Calls.quiet_of (hb0.out _ HP.out)))
  go_wp2_with fail
  rw [rounds_succ]
  go_wp2_with fail
  go_quiet ((go_at_call 62; exact q_draws (hb1.out _ HP.out)))
  go_wp2_with fail
  rw [rounds_succ]
  go_wp2_with fail
  go_ret
  exact ⟨rfl, _, rfl⟩
theorem plic_lines (d : Dev) (hd : d.Ok) (b : Nat) (w : World) (hp : PlicAt w b d) : Calls Try.prog 38 #[.pointer (some ⟨b, 0, none⟩)] w fun e w' => e = .returned (.int .u64 (d.lns : Nat)) ∧ ∃ n, w' = w.drewN n := by
  unfold Dev.lns
  by_cases t0 : d.th 0 < d.pr (d.best 0) <;> by_cases t1 : d.th 1 < d.pr (d.best 1)
  · rw [if_pos t0, if_pos t1]; exact plic_lines11 d hd b w hp t0 t1
  · rw [if_pos t0, if_neg t1]; exact plic_lines10 d hd b w hp t0 t1
  · rw [if_neg t0, if_pos t1]; exact plic_lines01 d hd b w hp t0 t1
  · rw [if_neg t0, if_neg t1]; exact plic_lines00 d hd b w hp t0 t1
set_option maxRecDepth 100000 in
set_option maxHeartbeats 2000000 in
theorem plic_lines_nil (w : World) : Calls Try.prog 38 #[.pointer none] w fun e w' => e = .returned (.int .u64 0) ∧ w = w' := by
  go_enter Try.func38, Try.ntmps38
  go_wp2
  go_ret
  exact ⟨rfl, rfl⟩
set_option maxRecDepth 100000 in
set_option maxHeartbeats 2000000 in
theorem plic_tick_nil (l : Int) (w : World) : Calls Try.prog 35 #[.pointer none, .int .u32 l] w fun e w' => e = .returned (.tuple #[]) ∧ w = w' := by
  go_enter Try.func35, Try.ntmps35
  go_wp2
  go_end0
  exact ⟨rfl, rfl⟩
end Go.Proofs.Ytefcdbpmpnmkjaa
end
section
set_option linter.unusedVariables false
set_option linter.unusedSimpArgs false
namespace Go.Proofs.Ytefcdbpmpnmkjaa
open Go.RowKit
attribute [local go_sem ↓] ld_dev  ld_plc st_dev  st_plc
attribute [local go_sem] rl_dev  rl_plc rs_dev  rs_plc Dev.size_cells Dev.st_ok Dev.c0 Dev.c1 Dev.c2 Dev.c3 Dev.c4 Dev.c5 Dev.c6 Dev.c7 Dev.c8 Dev.c9 Dev.c10 Dev.c11 Dev.c12 Dev.c13 Dev.c14 Dev.c15 Dev.c16 Dev.c17 Dev.c18 Dev.c19 Dev.c20 Dev.c21 Dev.set_pend Dev.set_cla row_alloc row_drew row_drewN is_alloc is_drew is_drewN row_setCell is_setCell setRow_alloc_new objRow_cells objIs_cells row_setRow_same row_setRow_other is_setRow_same is_setRow_other
end Go.Proofs.Ytefcdbpmpnmkjaa
end
section
set_option linter.unusedVariables false
set_option linter.unusedSimpArgs false
namespace Go.Proofs.Ytefcdbpmpnmkjaa
open Go.RowKit

def romW (i : Nat) : Int := [663, 33719699, 4047512947, 25342595, 163943, 0, 2147483648, 0].getD i 0
def romAt (k : Nat) : Int := if k < 32 then romW (k / 4) / 2 ^ (8 * (k % 4)) % 256 else 0
def romArr (n : Nat) : Array Value := ((List.range 4096).map fun k => Value.int .u8 (if k < n then romAt k else 0)).toArray
theorem romArr_get (n k : Nat) (h : k < 4096) : (romArr n)[k]? = some (.int .u8 (if k < n then romAt k else 0)) := by
  unfold romArr
  simp [h]
theorem romArr0 : madeCells #[(.int .u8 0)] 4096 = romArr 0 := by
  unfold madeCells romArr
  apply Array.ext'
  simp [Array.toList_range]
  intro a ha
  simp [Nat.mod_one]
theorem romArr_set (n : Nat) (v : Int) (h : n < 4096) (hv : v = romAt n) : (romArr n).setIfInBounds n (.int .u8 v) = romArr (n+1) := by
  unfold romArr
  apply Array.ext'
  apply List.ext_getElem
  · simp
  intro i h1 h2
  simp [List.getElem_set]
  by_cases hi : n = i
  · subst hi; simp [hv]
  · simp only [hi, if_false]
    have e : i < n ↔ i < n + 1 := by omega
    simp [e]
theorem romW_step (n k : Nat) (hk : k < 4) (hn : n < 8) : romW n / 2 ^ (8 * k) % 256 = romAt (4 * n + k) := by
  unfold romAt
  rw [if_pos (by omega), show (4 * n + k) / 4 = n by omega, show (4 * n + k) % 4 = k by omega]
theorem romAt_bd (k : Nat) : 0 ≤ romAt k ∧ romAt k ≤ 255 := by
  unfold romAt
  split
  · omega
  · omega
theorem rom_make (w : World) : (Instr.makeSlice 37 (.int .i64 4096) (.int .i64 4096)).run Try.prog w = .ok (.slice (some ⟨w.heap.size, 0, none⟩) 4096 4096) (w.alloc (.cells (romArr 0) 5)) := by
  have h := run_make_row' (P := Try.prog) 37 5 (.int .u8 0) 1 Try.underlying37 A_info5 rfl .i64 .i64 4096 (by omega) (by omega) w
  rw [romArr0] at h
  exact h
theorem rom_index : ∀ (n : Nat) (h : n < 8) (w : World), (Instr.index 54 (.agg #[Value.int IntKind.u32 663, Value.int IntKind.u32 33719699, Value.int IntKind.u32 4047512947,
    Value.int IntKind.u32 25342595, Value.int IntKind.u32 163943, Value.int IntKind.u32 0,
    Value.int IntKind.u32 2147483648, Value.int IntKind.u32 0]) (.int .i64 n)).run Try.prog w = .ok (.int .u32 (romW n)) w
  | 0, _, _ => by kernel_rfl
  | 1, _, _ => by kernel_rfl
  | 2, _, _ => by kernel_rfl
  | 3, _, _ => by kernel_rfl
  | 4, _, _ => by kernel_rfl
  | 5, _, _ => by kernel_rfl
  | 6, _, _ => by kernel_rfl
  | 7, _, _ => by kernel_rfl
  | n + 8, h, _ => absurd h (by omega)

set_option maxHeartbeats 1000000 in
theorem rom_bytes (w : World) :
    Calls Try.prog 63 #[] w fun e w' => e = .returned (.slice (some ⟨w.heap.size + 1, 0, none⟩) 4096 4096) ∧ w'.heap[w.heap.size + 1]? = some (.cells (romArr 32) 5 (0,0)) ∧ Below w.heap.size w w' := by
  have hmk := rom_make
  go_enter Try.func63, Try.ntmps63
  go_wp2_with fail
  clear hmk
  go_loopw [9] (fun i wr => ∃ n : Nat, n ≤ 8 ∧ i = .int .i64 n ∧ wr.heap[w.heap.size + 1]? = some (.cells (romArr (4*n)) 5 (0,0)) ∧ Below w.heap.size w wr) (fun i _ => 8 - (intOf i).toNat)
  case atStart => exact ⟨0, by omega, rfl, by simpa using blk_alloc (w.alloc _) _, ((Below.refl _ _).alloc (Nat.le_refl _) _).alloc (by simp) _⟩
  case round =>
    obtain ⟨n, hn, rfl, hh, hb⟩ := hrel
    by_cases hlt : n < 8
    · have hix := rom_index n hlt
      go_wp2_with fail
      clear hix
      go_loopw [13] (fun k wr => ∃ m : Nat, m ≤ 4 ∧ k = .int .i64 m ∧ wr.heap[w.heap.size + 1]? = some (.cells (romArr (4*n+m)) 5 (0,0)) ∧ Below w.heap.size w wr) (fun i _ => 4 - (intOf i).toNat)
      case atStart => exact ⟨0, by omega, rfl, hh, hb⟩
      case round =>
        clear hh hb
        obtain ⟨m, hm, rfl, hh, hb⟩ := hrel
        by_cases hl2 : m < 4
        · have hc := (blk_cell hh (4*n+m)).trans (romArr_get _ _ (by omega))
          have hf := blk_frozen hh (4*n+m)
          have H : Hid ((wr.setCell ⟨w.heap.size + 1, 4*n+m, none⟩ (.int .u8 (romW n / 2 ^ (8 * m) % 256))).heap[w.heap.size + 1]? = some (.cells (romArr (4*n+(m+1))) 5 (0,0))) := by
            have h1 := blk_set hh (4*n+m) (.int .u8 (romW n / 2 ^ (8 * m) % 256))
            rw [romArr_set _ _ (by omega) (romW_step n m hl2 hlt)] at h1
            exact h1
          have HB : Hid (Below w.heap.size w (wr.setCell ⟨w.heap.size + 1, 4*n+m, none⟩ (.int .u8 (romW n / 2 ^ (8 * m) % 256)))) := hb.setCell (by simp) _
          clear hh hb
          go_wp2_with fail
          go_roundw
          case rel => exact ⟨m + 1, by omega, by go_num, H.out, HB.out⟩
          case measure => simp [intOf]; omega
        · have hm4 : m = 4 := by omega
          have HH : Hid (wr.heap[w.heap.size + 1]? = some (.cells (romArr (4*(n+1))) 5 (0,0))) := by
            rw [show 4 * (n+1) = 4*n+m by omega]; exact hh
          have HB : Hid (Below w.heap.size w wr) := hb
          clear hh hb hm4
          go_wp2_with fail
          go_roundw
          case rel => exact ⟨n + 1, by omega, by go_num, HH.out, HB.out⟩
          case measure => simp [intOf]; omega
    · go_wp2_with fail
      go_ret
      exact ⟨rfl, by simpa [show n = 8 by omega] using hh, hb⟩
theorem rom_list : ∀ (n : Nat) (h : n < 8), ([Value.int IntKind.u32 663, Value.int IntKind.u32 33719699, Value.int IntKind.u32 4047512947,
    Value.int IntKind.u32 25342595, Value.int IntKind.u32 163943, Value.int IntKind.u32 0,
    Value.int IntKind.u32 2147483648, Value.int IntKind.u32 0] : List Value)[n]? = some (.int .u32 (romW n))
  | 0, _ => rfl
  | 1, _ => rfl
  | 2, _ => rfl
  | 3, _ => rfl
  | 4, _ => rfl
  | 5, _ => rfl
  | 6, _ => rfl
  | 7, _ => rfl
  | n + 8, h => absurd h (by omega)

/-- the slice at a, of len bytes, reads as l. -/
structure IsB (w : World) (a : Option Addr) (len : Nat) (l : List Int) : Prop where
  hlen : l.length = len
  bd : ∀ x ∈ l, 0 ≤ x ∧ x ≤ 255
  cell : (a = none ∧ len = 0) ∨ ∃ b o, a = some ⟨b, o, none⟩ ∧ ∀ i, i < len → w.cell? ⟨b, o + i, none⟩ = some (.int .u8 (l.getD i 0))

theorem strOfNums_inj (l1 l2 : List Int) (h1 : ∀ x ∈ l1, 0 ≤ x ∧ x ≤ 255) (h2 : ∀ x ∈ l2, 0 ≤ x ∧ x ≤ 255) :
    (l1.map fun n => UInt8.ofNat n.toNat) = (l2.map fun n => UInt8.ofNat n.toNat) ↔ l1 = l2 := by
  constructor
  · intro h
    induction l1 generalizing l2 with
    | nil => cases l2 <;> simp_all
    | cons x l1 ih =>
      cases l2 with
      | nil => simp at h
      | cons y l2 =>
        simp only [List.map_cons, List.cons.injEq] at h
        have hx := h1 x (by simp)
        have hy := h2 y (by simp)
        have e := congrArg UInt8.toNat h.1
        simp at e
        have : x = y := by omega
        rw [this, ih l2 (fun z hz => h1 z (by simp [hz])) (fun z hz => h2 z (by simp [hz])) h.2]
  · intro h; rw [h]

/-- bytes l1, l2 alike, as the call of same.Bytes answers it. -/
def eqB (l1 l2 : List Int) : Bool := decide (l1 = l2)

theorem eqB_str (l1 l2 : List Int) (b1 : ∀ x ∈ l1, 0 ≤ x ∧ x ≤ 255) (b2 : ∀ x ∈ l2, 0 ≤ x ∧ x ≤ 255) : ((strOfNums l1).toList == (strOfNums l2).toList) = eqB l1 l2 := by
  unfold eqB
  rw [ByteArray.toList_eq, ByteArray.toList_eq, strOfNums_data, strOfNums_data, Bool.eq_iff_iff]
  simp [strOfNums_inj l1 l2 b1 b2]
theorem run_bytes_str {w : World} {a : Option Addr} {n : Nat} {l : List Int} (h : IsB w a n l) (c : Nat) :
    (convert 37 9 (.slice a n c)).run Try.prog w = .ok (.string (strOfNums l)) w := by
  obtain ⟨e, _, h⟩ := h
  rcases h with ⟨rfl, rfl⟩ | ⟨B, o, rfl, h⟩
  · have := run_convert_bytes_nil w (P := Try.prog) 37 5 Try.underlying37 Try.underlying5 0 c 9 Try.underlying9
    rw [List.eq_nil_of_length_eq_zero e]
    exact this
  · exact run_convert_bytes_arg w (P := Try.prog) 37 5 Try.underlying37 Try.underlying5 B o n c l e h 9 Try.underlying9
set_option maxHeartbeats 400000 in
theorem same_bytes (a1 a2 : Option Addr) (n1 n2 c1 c2 : Nat) (l1 l2 : List Int) (w : World) (h1 : IsB w a1 n1 l1) (h2 : IsB w a2 n2 l2) :
    Calls Try.prog 46 #[.slice a1 n1 c1, .slice a2 n2 c2] w fun e w' => e = .returned (.bool (eqB l1 l2)) ∧ w = w' := by
  have fin : Hid (((strOfNums l1).toList == (strOfNums l2).toList) = eqB l1 l2) := eqB_str l1 l2 h1.bd h2.bd
  have k1 := run_bytes_str h1 c1
  have k2 := run_bytes_str h2 c2
  clear h1 h2
  go_enter Try.func46, Try.ntmps46
  go_wp2
  go_ret
  exact ⟨ret_bool fin.out, rfl⟩

/-- a stretch of the ROM -/
def romL (off n : Nat) : List Int := (List.range n).map fun i => romAt (off + i)
theorem romL_len (off n : Nat) : (romL off n).length = n := by simp [romL]
theorem romL_get (off n i : Nat) (h : i < n) : (romL off n).getD i 0 = romAt (off + i) := by simp [romL, List.getD, h]
theorem romL_snoc (off n : Nat) : romL off (n + 1) = romL off n ++ [romAt (off + n)] := by simp [romL, List.range_succ]
theorem romL_bd (off n : Nat) : ∀ x ∈ romL off n, 0 ≤ x ∧ x ≤ 255 := by
  intro x hx
  simp [romL] at hx
  obtain ⟨i, _, rfl⟩ := hx
  exact romAt_bd _
theorem romAt32 (k : Nat) : (if k < 32 then romAt k else 0) = romAt k := by
  unfold romAt; split <;> simp_all
theorem bytes_own {w : World} {base : Nat} {v : Value} {n : Nat} {l : List Int} (h : w.ownsRow base 5 1 v n (l.map (Value.int .u8))) (hb : ∀ x ∈ l, 0 ≤ x ∧ x ≤ 255) :
    ∃ a c, v = .slice a n c ∧ IsB w a n l := by
  have hl : l.length = n := by have := h.1; simpa using this
  rcases h.2 with ⟨rfl, rfl⟩ | ⟨g, cap, cur, rfl, hg, hh, hn, hm, hs, ht⟩
  · exact ⟨none, 0, rfl, hl, hb, .inl ⟨rfl, rfl⟩⟩
  · refine ⟨_, _, rfl, hl, hb, .inr ⟨g, 0, rfl, fun i hi => ?_⟩⟩
    have hc := h.cells (g := g) rfl i (.int .u8 (l.getD i 0)) (by simp [List.getD, hl, hi])
    have hadd : (⟨g, 0, none⟩ : Addr).add i = ⟨g, 0 + i, none⟩ := by unfold Addr.add; split <;> simp_all
    rw [hadd] at hc
    exact hc


/-- it answered the bytes l and no error, and turned nothing that was there -/
def BytesOk (w : World) (n : Nat) (l : List Int) (e : Ending) (w' : World) : Prop := ∃ a c, e = .returned (.tuple #[.slice a n c, .int .i64 0]) ∧ IsB w' a n l ∧ Below w.heap.size w w'
set_option maxRecDepth 100000 in
set_option maxHeartbeats 1000000 in
theorem rom_read (off n : Nat) (h : off + n ≤ 4096) (w : World) :
    Calls Try.prog 39 #[.int .u64 off, .int .i64 n] w (BytesOk w n (romL off n)) := by
  have h1 : (off : Int) ≤ 4096 := by omega
  have h2 : (n : Int) ≤ 4096 - off := by omega
  have H := Lib.hid h; clear h
  go_enter Try.func39, Try.ntmps39
  go_wp2_with fail
  refine (rom_bytes w).mono ?_
  rintro e w1 ⟨rfl, hh, hb⟩
  have HH := Lib.hid hh; have HB := Lib.hid hb; clear hh hb
  have hsrc : Hid (SrcIs w1 (if 4096 = off then some { block := w.heap.size + 1, off := 0 } else some { block := w.heap.size + 1, off := off }) (off + n - off) ((romL off n).map (Value.int .u8))) := by
    have := H.out
    refine ⟨by rw [List.length_map, romL_len]; omega, .inr ⟨w.heap.size + 1, if 4096 = off then 0 else off, by split <;> rfl, fun i hi => ?_⟩⟩
    rw [if_neg (by omega), blk_cell HH.out, romArr_get _ _ (by omega), romAt32, List.getElem?_map, List.getElem?_eq_getElem (by rw [romL_len]; omega)]
    simp [romL]
  have hone : Hid (∀ u ∈ (romL off n).map (Value.int .u8), u.oneCell' = true) := by intro u hu; simp at hu; obtain ⟨_, _, rfl⟩ := hu; rfl
  have hby : Hid ((0 + (off + n - off)) * 1 ≤ 140737488355328) := by have := H.out; show _ ≤ _; omega
  have h63 : Hid (0 + (off + n - off) ≤ maxLen) := by have := H.out; show _ ≤ _; unfold maxLen; omega
  go_wp2_with (at_builtin; refine wpList_app rfl _ _ 37 rfl w.heap.size 5 (.int .u8 0) 1 Try.underlying37 A_info5 rfl (.slice none 0 0) 0 [] rfl (World.ownsRow_nil _ _ _ _) _ _ _ ((romL off n).map (Value.int .u8)) rfl hsrc.out hone.out hby.out h63.out HB.out.size ?_; intro v' w2 hown hg _)
  all_goals
    have HO : BytesOk w n (romL off n) (.returned (.tuple #[v', .int .i64 0])) w2 := by
      rw [show 0 + (off + n - off) = n by omega] at hown
      obtain ⟨a, c, rfl, hb⟩ := bytes_own hown (romL_bd off n)
      exact ⟨a, c, rfl, hb, HB.out.grown hg HB.out.size (by intro k hk; cases hk)⟩
    go_ret2
    exact HO
end Go.Proofs.Ytefcdbpmpnmkjaa
end
section
set_option linter.unusedVariables false
set_option linter.unusedSimpArgs false
namespace Go.Proofs.Ytefcdbpmpnmkjaa
open Go.RowKit
/-- no bytes, and that error -/
def ErrIs (w : World) (k : Int) (e : Ending) (w' : World) : Prop := e = .returned (.tuple #[.slice none 0 0, .int .i64 k]) ∧ w = w'
set_option maxRecDepth 100000 in
set_option maxHeartbeats 1000000 in
theorem rom_read_neg (off n : Int) (h : n < 0) (w : World) : Calls Try.prog 39 #[.int .u64 off, .int .i64 n] w (ErrIs w 1) := by
  go_enter Try.func39, Try.ntmps39
  go_wp2
  go_ret2
  exact ⟨rfl, rfl⟩
set_option maxRecDepth 100000 in
set_option maxHeartbeats 1000000 in
theorem rom_read_bus (off n : Int) (h0 : 0 ≤ n) (h2 : n ≤ 9223372036854775807) (o0 : 0 ≤ off) (o1 : off ≤ 18446744073709551615) (h : 4096 < off ∨ 4096 - off < n) (w : World) :
    Calls Try.prog 39 #[.int .u64 off, .int .i64 n] w (ErrIs w 6) := by
  by_cases hc : 4096 < off
  · clear h
    go_enter Try.func39, Try.ntmps39
    go_wp2
    go_ret2
    exact ⟨rfl, rfl⟩
  · have h' : 4096 - off < n := by omega
    have hc : off ≤ 4096 := by omega
    clear h
    go_enter Try.func39, Try.ntmps39
    go_wp2
    go_ret2
    exact ⟨rfl, rfl⟩
end Go.Proofs.Ytefcdbpmpnmkjaa
end
section
set_option linter.unusedVariables false
set_option linter.unusedSimpArgs false
namespace Go.Proofs.Ytefcdbpmpnmkjaa
open Go.RowKit

end Go.Proofs.Ytefcdbpmpnmkjaa
end
section
set_option linter.unusedVariables false
set_option linter.unusedSimpArgs false
namespace Go.Proofs.Ytefcdbpmpnmkjaa
open Go.RowKit

end Go.Proofs.Ytefcdbpmpnmkjaa
end
section
set_option linter.unusedVariables false
set_option linter.unusedSimpArgs false
namespace Go.Proofs.Ytefcdbpmpnmkjaa
open Go.RowKit
/-- bytes l and the error k, nothing that was there turned -/
def Reads (w : World) (l : List Int) (k : Int) (e : Ending) (w' : World) : Prop := ∃ a n c, e = .returned (.tuple #[.slice a n c, .int .i64 k]) ∧ IsB w' a n l ∧ Below w.heap.size w w'
theorem isB_below {w w' : World} {a : Option Addr} {n : Nat} {l : List Int} (h : IsB w a n l) (hb : Below w.heap.size w w') : IsB w' a n l := by
  obtain ⟨h1, h2, h3⟩ := h
  refine ⟨h1, h2, h3.imp id ?_⟩
  rintro ⟨b, o, rfl, hc⟩
  refine ⟨b, o, rfl, fun i hi => ?_⟩
  rw [hb.cell (p := ⟨b, o + i, none⟩) (World.block_lt_of_cell? w _ (hc i hi))]
  exact hc i hi

theorem wf_u64 {a : Int} (h : (Lit.int .u64 a).wf = true) : 0 ≤ a ∧ a ≤ 18446744073709551615 := by simpa [Lit.wf, IntKind.min, IntKind.max, IntKind.signed, IntKind.bits] using h
theorem wf_i64 {a : Int} (h : (Lit.int .i64 a).wf = true) : -9223372036854775808 ≤ a ∧ a ≤ 9223372036854775807 := by simpa [Lit.wf, IntKind.min, IntKind.max, IntKind.signed, IntKind.bits] using h
end Go.Proofs.Ytefcdbpmpnmkjaa
end
section
set_option linter.unusedVariables false
set_option linter.unusedSimpArgs false
namespace Go.Proofs.Ytefcdbpmpnmkjaa
open Go.RowKit
theorem all_getD (xs : List Int) : ∀ (ys : List Int), xs.length = ys.length → (List.range xs.length).all (fun i => xs.getD i 0 == ys.getD i 0) = (xs == ys) := by
  induction xs with
  | nil => intro ys h; cases ys with
    | nil => rfl
    | cons y ys => simp at h
  | cons x xs ih =>
    intro ys h
    cases ys with
    | nil => simp at h
    | cons y ys =>
      have ih := ih ys (by simpa using h)
      rw [List.length_cons, List.range_succ_eq_map, List.all_cons, List.all_map]
      simp only [List.getD_cons_zero, Function.comp_def, List.getD_cons_succ, ih]
      simp [List.cons_beq_cons]
theorem run_equalIn_ints {P : Program} (w : World) (d : Nat) (t e : TypeId) (K : IntKind) (n : Nat) (ht : P.underlying t = some (.array n e)) (he : P.underlying e = some (.int K)) (hsz : ∀ w, (sizeOf e).run P w = .ok 1 w)
    (xs ys : List Int) (hx : xs.length = n) (hy : ys.length = n) :
    (Op.equalIn (d + 2) t (.agg (xs.map (Value.int K)).toArray) (.agg (ys.map (Value.int K)).toArray)).run P w = .ok (xs == ys) w := by
  rw [← all_getD xs ys (hx.trans hy.symm), hx, List.range_eq_range', Op.equalIn]
  simp only [Sem.run_bind, run_underlying ht, Result.andThen_ok, hsz, Std.Legacy.Range.forIn_eq_forIn_range', Std.Legacy.Range.size, Nat.sub_zero, Nat.add_sub_cancel, Nat.div_one]
  have hl : ∀ i ∈ List.range' 0 n 1, i < n := fun i hi => by simpa using (List.mem_range'_1.1 hi).2
  generalize List.range' 0 n 1 = l at hl ⊢
  induction l with
  | nil => simp
  | cons i l ih =>
    have hi : i < n := hl i (by simp)
    have px : (part e (xs.map (Value.int K)).toArray (i * 1)).run P w = .ok (Value.int K (xs.getD i 0)) w := by
      simp [part, isAgg, run_underlying he, List.getD, List.getElem?_eq_getElem (show i < xs.length by omega)]
    have py : (part e (ys.map (Value.int K)).toArray (i * 1)).run P w = .ok (Value.int K (ys.getD i 0)) w := by
      simp [part, isAgg, run_underlying he, List.getD, List.getElem?_eq_getElem (show i < ys.length by omega)]
    have pe : (Op.equalIn (d + 1) e (Value.int K (xs.getD i 0)) (Value.int K (ys.getD i 0))).run P w = .ok (xs.getD i 0 == ys.getD i 0) w := run_equalIn_int w d e K K _ _ he
    simp only [List.forIn_cons, Sem.run_bind, px, py, pe, Result.andThen_ok, List.all_cons]
    cases hb : (xs.getD i 0 == ys.getD i 0)
    · simp
    · simp only [Bool.not_true, Bool.false_eq_true, if_false, Sem.run_pure, Result.andThen_ok, Bool.true_and]
      exact ih fun j hj => hl j (by simp [hj])
end Go.Proofs.Ytefcdbpmpnmkjaa
end
section
set_option linter.unusedVariables false
set_option linter.unusedSimpArgs false
namespace Go.Proofs.Ytefcdbpmpnmkjaa
open Go.RowKit
attribute [local go_sem ↓] ld_dev  ld_plc st_dev  st_plc
attribute [local go_sem] rl_dev  rl_plc rs_dev  rs_plc Dev.size_cells Dev.st_ok Dev.c0 Dev.c1 Dev.c2 Dev.c3 Dev.c4 Dev.c5 Dev.c6 Dev.c7 Dev.c8 Dev.c9 Dev.c10 Dev.c11 Dev.c12 Dev.c13 Dev.c14 Dev.c15 Dev.c16 Dev.c17 Dev.c18 Dev.c19 Dev.c20 Dev.c21 Dev.set_pend Dev.set_cla row_alloc row_drew row_drewN is_alloc is_drew is_drewN row_setCell is_setCell setRow_alloc_new objRow_cells objIs_cells row_setRow_same row_setRow_other is_setRow_same is_setRow_other
theorem sz45 (w : World) : (sizeOf 53).run Try.prog w = .ok 1 w := by kernel_rfl
theorem eq8 (f : Nat → Nat) (w : World) : (Op.equalIn 10000 54 (.agg #[.int .u32 (f 0), .int .u32 (f 1), .int .u32 (f 2), .int .u32 (f 3), .int .u32 (f 4), .int .u32 (f 5), .int .u32 (f 6), .int .u32 (f 7)])
    (.agg #[.int .u32 (f 0), .int .u32 (f 1), .int .u32 (f 2), .int .u32 (f 3), .int .u32 (f 4), .int .u32 (f 5), .int .u32 (f 6), .int .u32 (f 7)])).run Try.prog w = .ok true w := by
  have h := run_equalIn_ints (P := Try.prog) w 9998 54 53 .u32 8 Try.underlying54 Try.underlying53 sz45 [(f 0 : Int), f 1, f 2, f 3, f 4, f 5, f 6, f 7] [(f 0 : Int), f 1, f 2, f 3, f 4, f 5, f 6, f 7] rfl rfl
  rw [BEq.rfl] at h
  exact h
theorem eq2 (f : Nat → Nat) (w : World) : (Op.equalIn 10000 55 (.agg #[.int .u32 (f 0), .int .u32 (f 1)]) (.agg #[.int .u32 (f 0), .int .u32 (f 1)])).run Try.prog w = .ok true w := by
  have h := run_equalIn_ints (P := Try.prog) w 9998 55 53 .u32 2 Try.underlying55 Try.underlying53 sz45 [(f 0 : Int), f 1] [(f 0 : Int), f 1] rfl rfl
  rw [BEq.rfl] at h
  exact h
set_option maxRecDepth 100000 in
set_option maxHeartbeats 4000000 in
theorem same_devices (d : Dev) (w : World) (lr lt : List Int) (hr : IsB w d.rxa d.rxl lr) (ht : IsB w d.txa d.txl lt) :
    Calls Try.prog 16 #[.agg d.cells, .agg d.cells] w fun e w' => e = .returned (.bool true) ∧ Below w.heap.size w w' := by
  have hw : ∀ a b, Below w.heap.size w ((w.alloc a).alloc b) := fun a b => base2 w a b
  have hr' : Hid (∀ a b, IsB ((w.alloc a).alloc b) d.rxa d.rxl lr) := fun a b => isB_below hr (hw a b)
  have ht' : Hid (∀ a b, IsB ((w.alloc a).alloc b) d.txa d.txl lt) := fun a b => isB_below ht (hw a b)
  clear hr ht hw
  have e8 := eq8 d.pr
  have e2 := eq2 d.en
  have e3 := eq2 d.th
  go_enter Try.func16, Try.ntmps16
  go_wp2_with fail
  refine (same_bytes _ _ _ _ _ _ lr lr _ (hr'.out _ _) (hr'.out _ _)).mono ?_
  rintro e w5 ⟨rfl, rfl⟩
  rw [show eqB lr lr = true by simp [eqB]]
  go_wp2_with fail
  refine (same_bytes _ _ _ _ _ _ lt lt _ (ht'.out _ _) (ht'.out _ _)).mono ?_
  rintro e w5 ⟨rfl, rfl⟩
  rw [show eqB lt lt = true by simp [eqB]]
  go_wp2
  go_ret
  exact ⟨rfl, base2 w _ _⟩
end Go.Proofs.Ytefcdbpmpnmkjaa
end
