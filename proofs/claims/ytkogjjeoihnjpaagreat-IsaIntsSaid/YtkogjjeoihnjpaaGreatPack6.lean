/- Small lemmas on worlds, blocks and bytes that the walks of this seat use. No condition. Memory as data: the pages' blocks, the map that leads to them, and what the bytes are (no walk). No condition. Contracts of Ram.get, set, all, New. No condition. What lies where: pma.find and what leans on it. No condition. Contracts of pma.Region, Cached, Offset. No condition. Contracts of Ram.all, New, Pages, Read. No condition. The ROM's functions, walked: what each call answers and leaves. Condition: none. Contracts of ram.New, Pages, Read. No condition. Contracts of bits.Word, Bytes, Aligned. No condition. Slices of numbers and of bools that came in as arguments: what their cells hold, and how great they may be. No condition. -/
import Derived.Test.YtkogjjeoihnjpaaGreatRows
import Derived.WalkKit
import Derived.WalkSpells
import Derived.WalkLawsBesides
import Derived.Lib.Hide
import Derived.Deep.OwnRows
import Derived.Deep.QuietTactic
import Derived.BigQuiet
import Derived.Maps.OwnOps
import Derived.Maps.RangeWalk
import Derived.Maps.Views
import Derived.Maps.Ext
import Derived.StillTailTactics
import Derived.BigRegion
import Derived.Deep.RegionWith
import Derived.Deep.RegionHeld3
import Derived.Deep.LoopGhost
import Derived.Deep.DeepCutAuto
import Derived.Deep.DeepFit
import Derived.Deep.DeepMust
import Derived.Handy
import Derived.OpenShut
import Derived.ChangeOld
import Derived.SizedLaws
import Derived.ChangeSlices
import Derived.Deep.Grids
section
set_option linter.unusedVariables false
set_option linter.unusedSimpArgs false
namespace Go.Proofs.YtkogjjeoihnjpaaGreat
open Go.RowKit

theorem blk_cell {w : World} {b : Nat} {C : Array Value} {T : TypeId} {fz : Nat × Nat} (h : w.heap[b]? = some (.cells C T fz)) (o : Nat) : w.cell? ⟨b, o, none⟩ = C[o]? := by
  simp [World.cell?, h]
theorem blk_frozen {w : World} {b : Nat} {C : Array Value} {T : TypeId} (h : w.heap[b]? = some (.cells C T (0, 0))) (o : Nat) : w.frozen? ⟨b, o, none⟩ = false := by
  simp [World.frozen?, h]
theorem blk_set {w : World} {b : Nat} {C : Array Value} {T : TypeId} {fz : Nat × Nat} (h : w.heap[b]? = some (.cells C T fz)) (o : Nat) (v : Value) :
    (w.setCell ⟨b, o, none⟩ v).heap[b]? = some (.cells (C.setIfInBounds o v) T fz) := by
  simp [World.setCell, Array.getElem?_modify, h]
theorem blk_set_ne {w : World} {b : Nat} (a : Addr) (v : Value) (hne : a.block ≠ b) : (w.setCell a v).heap[b]? = w.heap[b]? := by
  simp [World.setCell, Array.getElem?_modify, hne]
theorem blk_alloc (w : World) (o : Obj) : (w.alloc o).heap[w.heap.size]? = some o := heap_alloc_new w o
theorem blk_alloc_old (w : World) (o : Obj) (b : Nat) (h : b < w.heap.size) : (w.alloc o).heap[b]? = w.heap[b]? := Below.heap_alloc w o b h
theorem blk_lt {w : World} {b : Nat} {o : Obj} (h : w.heap[b]? = some o) : b < w.heap.size := (Array.getElem?_eq_some_iff.1 h).1
theorem blk_below {B : Nat} {w w' : World} (h : Below B w w') {b : Nat} (hb : b < B) {o : Obj} (hh : w.heap[b]? = some o) : w'.heap[b]? = some o := (h.block b hb).trans hh
theorem below_cells {W w1 : World} (hb : Below W.heap.size W w1) : (∀ b o, b < W.heap.size → w1.cell? ⟨b, o, none⟩ = W.cell? ⟨b, o, none⟩) ∧ (∀ b o, b < W.heap.size → w1.frozen? ⟨b, o, none⟩ = W.frozen? ⟨b, o, none⟩) :=
  ⟨fun b o h => hb.cell (p := ⟨b, o, none⟩) h, fun b o h => hb.frozen (p := ⟨b, o, none⟩) h⟩

theorem A_info5 : (Tryz.prog.info? 5).map (fun i => (i.zero, i.size, i.bytes)) = some (some (.int .u8 0), 1, 1) := by kernel_rfl
theorem A_info4 : (Tryz.prog.info? 4).map (fun i => (i.zero, i.size, i.bytes)) = some (some (.bool false), 1, 1) := by kernel_rfl

theorem ret_int {k : IntKind} {a b : Int} (h : a = b) : Ending.returned (.int k a) = .returned (.int k b) := by rw [h]
theorem ret_bool {a b : Bool} (h : a = b) : Ending.returned (.bool a) = .returned (.bool b) := by rw [h]
theorem cell_set (w : World) (b o b' o' : Nat) (v : Value) : (w.setCell ⟨b, o, none⟩ v).cell? ⟨b', o', none⟩ = if b = b' ∧ o = o' then (w.cell? ⟨b', o', none⟩).map (fun _ => v) else w.cell? ⟨b', o', none⟩ := by
  simp only [World.cell?, World.setCell, Array.getElem?_modify]
  by_cases hb : b = b'
  · subst hb
    simp only [if_true, true_and]
    cases hh : w.heap[b]? with
    | none => simp
    | some ob =>
      cases ob <;> simp
      rw [Array.getElem?_setIfInBounds]
      split
      · rename_i h; subst h; split <;> simp_all
      · rfl
  · simp [hb]
theorem frozen_set (w : World) (a : Addr) (v : Value) (p : Addr) : (w.setCell a v).frozen? p = w.frozen? p := by
  simp only [World.frozen?, World.setCell, Array.getElem?_modify]
  by_cases h : a.block = p.block
  · rw [if_pos h]
    cases hh : w.heap[p.block]? with
    | none => simp
    | some ob => cases ob <;> simp
  · rw [if_neg h]

/-! ### append: onto a row of the call's own, from whatever slice of one-cell elements (nil too) -/
/-- the m cells that a slice leads to hold 'news' -/
def SrcIs (w : World) (ad : Option Addr) (m : Nat) (news : List Value) : Prop :=
  news.length = m ∧ ((ad = none ∧ m = 0) ∨ ∃ b o, ad = some ⟨b, o, none⟩ ∧ ∀ i, i < m → w.cell? ⟨b, o + i, none⟩ = news[i]?)
theorem addr_add (b o i : Nat) : (⟨b, o, none⟩ : Addr).add i = ⟨b, o + i, none⟩ := by unfold Addr.add; split <;> simp_all
theorem run_append_nothing {P : Program} (w : World) (base : Nat) (t ty e : TypeId) (i : TypeInfo) (ht : P.underlying t = some (.slice e)) (hi : P.info? e = some i)
    (v : Value) (n : Nat) (xs : List Value) (hown : w.ownsRow base e i.size v n xs) (c : Nat) :
    (Builtin.append_ #[t, t] ty #[v, .slice none 0 c]).run P w = .ok v w := by
  rcases hown.2 with ⟨rfl, rfl⟩ | ⟨g, cap, cur, rfl, hbg, hg, hnc, hcm, hcs, htake⟩
  · simp [Builtin.append_, run_underlying ht, sizeOf, typeInfo, hi, Builtin.lenOf, Builtin.firstCells, loadCells, loadCellsFrom]
  · simp [Builtin.append_, run_underlying ht, sizeOf, typeInfo, hi, Builtin.lenOf, Builtin.firstCells, loadCells, loadCellsFrom, hnc, storeCells]
theorem wpList_app {P : Program} {w : World} {ops : Array Oper} {rest : List Oper} {o : Oper} {a : Act} {Q : Exit → Act → World → Prop} (hgd : o.guard = none) (s x : Operand) (t : TypeId)
    (ho : o.op = .call { callee := .builtin .append, args := #[s, x], argTypes := #[t, t] })
    (base : Nat) (e : TypeId) (z : Value) (bytes : Nat) (ht : P.underlying t = some (.slice e)) (hinfo : (P.info? e).map (fun i => (i.zero, i.size, i.bytes)) = some (some z, 1, bytes)) (hz1 : z.cells = #[z])
    (v : Value) (n : Nat) (xs : List Value) (hs : a.eval s = v) (hown : w.ownsRow base e 1 v n xs)
    (ad : Option Addr) (m c : Nat) (news : List Value) (hx : a.eval x = .slice ad m c) (hsrc : SrcIs w ad m news) (h1 : ∀ u ∈ news, u.oneCell' = true)
    (hbytes : (n + m) * bytes ≤ 140737488355328) (h63 : n + m ≤ maxLen) (hbase : base ≤ w.heap.size)
    (h : ∀ v' w', w'.ownsRow base e 1 v' (n + m) (xs ++ news) → w.grownBy w' v.ownBlock → (v' = .slice none 0 0 ↔ v = .slice none 0 0 ∧ m = 0) → wpList P ops Q rest (a.put o.dst v') w') : wpList P ops Q (o :: rest) a w := by
  obtain ⟨i, hi, hzz⟩ := Option.map_eq_some_iff.1 hinfo
  simp only [Prod.mk.injEq] at hzz
  obtain ⟨hz, hsz, hb⟩ := hzz
  rcases hsrc with ⟨hl, ⟨rfl, rfl⟩ | ⟨b, of, rfl, hc⟩⟩
  · have hr := run_append_nothing (P := P) w base t o.type e i ht hi v n xs (by rw [hsz]; exact hown) c
    have hn : news = [] := List.eq_nil_of_length_eq_zero hl
    subst hn
    refine wpList_plain hgd fun K hK => ?_
    unfold Oper.wp execOp
    simp only [ho, resolve, invoke, builtin, Sem.run_bind, Sem.run_pure, Result.andThen_ok, List.map_toArray, List.map_cons, List.map_nil, hs, hx, hr]
    exact hK _ _ (h v w (by simpa using hown) ⟨rfl, rfl, rfl, Nat.le_refl _, fun _ _ _ => rfl⟩ (by simp))
  · refine wpList_append_own (w := w) hgd s x t ho base e i z 1 bytes ht hi hz hsz hb (by simp [hz1]) (by omega) v n xs hs hown ⟨b, of, none⟩ m c news hx (by omega) ?_ h1 h63 hbytes hbase h
    intro j u hu
    have hj : j < m := by rw [← hl]; exact (List.getElem?_eq_some_iff.1 hu).1
    rw [addr_add, hc j hj, hu]

theorem src_one (w : World) (v : Value) (T : TypeId) : SrcIs (w.alloc (.cells #[v] T)) (some ⟨w.heap.size, 0, none⟩) 1 [v] := by
  refine ⟨rfl, .inr ⟨_, _, rfl, fun i hi => ?_⟩⟩
  obtain rfl : i = 0 := by omega
  rw [blk_cell (blk_alloc w _)]
  rfl
theorem below_grown {w w' : World} (h : Below w.heap.size w w') (row : Option Nat) : w.grownBy w' row := ⟨h.os, h.tape, h.output, h.size, fun k hk _ => h.block k hk⟩
theorem own_below {w w' : World} {base : Nat} {e : TypeId} {size : Nat} {v : Value} {n : Nat} {xs : List Value} (h : w.ownsRow base e size v n xs) (hb : Below w.heap.size w w') : w'.ownsRow base e size v n xs :=
  h.kept (below_grown hb none) (by cases hv : v.ownBlock <;> simp)
/-- what holds above what was there before both -/
theorem below_then {B : Nat} {a b c : World} (h : Below B a b) (k : Below b.heap.size b c) (hB : B ≤ b.heap.size) : Below B a c := h.trans (k.mono hB)
theorem own_base {B : Nat} {w w' : World} {base : Nat} {e : TypeId} {size : Nat} {v : Value} {n : Nat} {xs : List Value} (h : w.ownsRow base e size v n xs) (hg : w.grownBy w' v.ownBlock) {a : World} (hb : Below B a w) (hB : B ≤ w.heap.size) (hbase : B ≤ base) : Below B a w' :=
  hb.grown hg hB fun k hk => Nat.le_trans hbase (h.lt k hk).1
/-! ### one old block may be written: 'grownBy .. (some b)' -/
theorem grown_refl (w : World) (row : Option Nat) : w.grownBy w row := ⟨rfl, rfl, rfl, Nat.le_refl _, fun _ _ _ => rfl⟩
theorem grown_trans {a b c : World} {row : Option Nat} (h : a.grownBy b row) (k : b.grownBy c row) : a.grownBy c row :=
  ⟨k.os.trans h.os, k.tape.trans h.tape, k.output.trans h.output, Nat.le_trans h.size k.size, fun i hi hr => (k.block i (Nat.lt_of_lt_of_le hi h.size) hr).trans (h.block i hi hr)⟩
theorem grown_drew {a w : World} {row : Option Nat} (h : a.grownBy w row) : a.grownBy w.drew row := ⟨h.os, h.tape, h.output, h.size, h.block⟩
theorem grown_drewN {a w : World} {row : Option Nat} (h : a.grownBy w row) (n : Nat) : a.grownBy (w.drewN n) row := ⟨h.os, h.tape, h.output, h.size, h.block⟩
theorem grown_alloc {a w : World} {row : Option Nat} (h : a.grownBy w row) (o : Obj) : a.grownBy (w.alloc o) row := grown_trans h (World.grownBy_alloc w o row)
theorem grown_set {a w : World} {b : Nat} (h : a.grownBy w (some b)) (o : Nat) (v : Value) : a.grownBy (w.setCell ⟨b, o, none⟩ v) (some b) :=
  grown_trans h ⟨rfl, rfl, rfl, by simp [World.setCell], fun k _ hk => Below.heap_setCell _ _ _ _ (by simpa using hk)⟩
theorem grown_below {B : Nat} {a w w' : World} {b : Nat} (h : Below B a w) (hg : w.grownBy w' (some b)) (hB : B ≤ w.heap.size) (hb : B ≤ b) : Below B a w' := h.grown hg hB (by rintro k ⟨⟩; exact hb)
theorem below_setRow {B : Nat} {a w : World} (h : Below B a w) {g : Nat} (hg : B ≤ g) (cs : Array Value) : Below B a (w.setRow g cs) :=
  h.trans ⟨rfl, rfl, rfl, by simp, fun k hk => setRow_other w g k cs (by omega)⟩
end Go.Proofs.YtkogjjeoihnjpaaGreat
end
section
set_option linter.unusedVariables false
set_option linter.unusedSimpArgs false
namespace Go.Proofs.YtkogjjeoihnjpaaGreat
open Go.RowKit

/-! ### worlds of which only some blocks have turned -/
/-- what was there is as it was, but for the blocks of S -/
structure Turned (S : Nat → Prop) (w w' : World) : Prop where
  os : w'.os = w.os
  tape : w'.tape = w.tape
  output : w'.output = w.output
  size : w.heap.size ≤ w'.heap.size
  block : ∀ g, g < w.heap.size → ¬ S g → w'.heap[g]? = w.heap[g]?
theorem Turned.refl (S : Nat → Prop) (w : World) : Turned S w w := ⟨rfl, rfl, rfl, Nat.le_refl _, fun _ _ _ => rfl⟩
theorem Turned.trans {S S' : Nat → Prop} {a b c : World} (h : Turned S a b) (k : Turned S' b c) (hs : ∀ g, S' g → S g ∨ a.heap.size ≤ g) : Turned S a c :=
  ⟨k.os.trans h.os, k.tape.trans h.tape, k.output.trans h.output, Nat.le_trans h.size k.size, fun g hg hn => (k.block g (Nat.lt_of_lt_of_le hg h.size) (fun e => by
    rcases hs g e with e | e
    · exact hn e
    · omega)).trans (h.block g hg hn)⟩
theorem Turned.mono {S S' : Nat → Prop} {a b : World} (h : Turned S a b) (hs : ∀ g, S g → S' g) : Turned S' a b := ⟨h.os, h.tape, h.output, h.size, fun g hg hn => h.block g hg (fun e => hn (hs g e))⟩
theorem Turned.below {S : Nat → Prop} {a b : World} (h : Turned S a b) {B : Nat} (hB : B ≤ a.heap.size) (hs : ∀ g, S g → B ≤ g) : Below B a b :=
  ⟨h.os, h.tape, h.output, h.size, fun g hg => h.block g (by omega) (fun e => by have := hs g e; omega)⟩
theorem Turned.of_below {a b : World} (h : Below a.heap.size a b) (S : Nat → Prop) : Turned S a b := ⟨h.os, h.tape, h.output, h.size, fun g hg _ => h.block g hg⟩
theorem Turned.of_grown {a b : World} {g : Nat} (h : a.grownBy b (some g)) : Turned (· = g) a b := ⟨h.os, h.tape, h.output, h.size, fun k hk hn => h.block k hk (fun e => hn (Option.some.inj e))⟩
theorem Turned.drew {S : Nat → Prop} {a b : World} (h : Turned S a b) : Turned S a b.drew := ⟨h.os, h.tape, h.output, h.size, h.block⟩
theorem Turned.alloc {S : Nat → Prop} {a b : World} (h : Turned S a b) (o : Obj) : Turned S a (b.alloc o) := h.trans (S' := fun _ => False) (.of_below ((Below.refl _ _).alloc (Nat.le_refl _) o) _) (fun _ e => e.elim)
theorem Turned.keep {S : Nat → Prop} {a b : World} (h : Turned S a b) {g : Nat} {o : Obj} (hn : ¬ S g) (ho : a.heap[g]? = some o) : b.heap[g]? = some o := (h.block g (blk_lt ho) hn).trans ho
theorem Turned.set {S : Nat → Prop} {a b : World} (h : Turned S a b) {g : Nat} (hg : S g ∨ a.heap.size ≤ g) (o : Nat) (v : Value) : Turned S a (b.setCell ⟨g, o, none⟩ v) :=
  h.trans (S' := (· = g)) ⟨rfl, rfl, rfl, by simp [World.setCell], fun k _ hk => Below.heap_setCell _ _ _ _ (by simpa using hk)⟩ (by rintro _ rfl; exact hg)

/-! ### the page's map -/
/-- a page's place in the map: its block's number, -1 where there is none -/
def pgR (v : Value) : Option (DataW Unit × List MemPlace) :=
  match v with
  | .pointer (some ⟨g, 0, none⟩) => some (.lit (.int .i64 g), [])
  | .pointer none => some (.lit (.int .i64 (-1)), [])
  | _ => none
def pgV : Option Nat → Value | none => .pointer none | some g => .pointer (some ⟨g, 0, none⟩)
def pgI : Option Nat → Int | none => -1 | some g => g
theorem pgR_V (p : Option Nat) : pgR (pgV p) = some (.lit (.int .i64 (pgI p)), []) := by cases p <;> rfl
theorem pgR_inj {v : Value} {i : Int} {ps : List MemPlace} (h : pgR v = some (.lit (.int .i64 i), ps)) : ∃ p, v = pgV p ∧ i = pgI p := by
  unfold pgR at h
  split at h
  · cases h; exact ⟨some _, rfl, rfl⟩
  · cases h; exact ⟨none, rfl, rfl⟩
  · cases h
theorem pgI_inj {p q : Option Nat} (h : pgI p = pgI q) : p = q := by
  cases p <;> cases q <;> simp [pgI] at h ⊢ <;> omega
theorem pgI_nonneg (p : Option Nat) : (-1 : Int) ≤ pgI p := by cases p <;> simp [pgI] <;> omega
theorem keyI : Go.Maps.Keyed Tryz.prog 3 := Go.Maps.int_keyed Tryz.underlying3
def keyL (k : Nat) : Lit := .int .i64 k
theorem keyL_inj {k k' : Nat} (h : keyL k = keyL k') : k = k' := by unfold keyL at h; injection h with _ h; omega
theorem keyOf_nat {k : Nat} (h : k < 9223372036854775808) : keyOf Tryz.prog 3 (.int .i64 k) = some (keyL k) :=
  Go.Maps.keyOf_int_mk Tryz.underlying3 (by simp [Lit.wf, IntKind.min, IntKind.max, IntKind.signed, IntKind.bits]; omega)
/-- how many of the pages below n are there -/
def pgCount (pg : Nat → Option Nat) : Nat → Nat
  | 0 => 0
  | n + 1 => pgCount pg n + if (pg n).isSome then 1 else 0
theorem pgCount_le (pg : Nat → Option Nat) (n : Nat) : pgCount pg n ≤ n := by
  induction n with
  | zero => simp [pgCount]
  | succ n ih => unfold pgCount; split <;> omega
def pgSet (pg : Nat → Option Nat) (k g : Nat) : Nat → Option Nat := fun j => if j = k then some g else pg j
theorem pgCount_set_ge (pg : Nat → Option Nat) (k g n : Nat) (h : n ≤ k) : pgCount (pgSet pg k g) n = pgCount pg n := by
  induction n with
  | zero => rfl
  | succ n ih =>
    unfold pgCount
    rw [ih (by omega)]
    have : pgSet pg k g n = pg n := by unfold pgSet; rw [if_neg (by omega)]
    rw [this]
theorem pgCount_set (pg : Nat → Option Nat) (k g n : Nat) (h : k < n) (hn : pg k = none) : pgCount (pgSet pg k g) n = pgCount pg n + 1 := by
  induction n with
  | zero => omega
  | succ n ih =>
    unfold pgCount
    by_cases hk : k = n
    · subst hk
      rw [pgCount_set_ge _ _ _ _ (Nat.le_refl _), hn]
      simp [pgSet]
    · have : pgSet pg k g n = pg n := by unfold pgSet; rw [if_neg (by omega)]
      rw [ih (by omega), this]
      omega
/-- block m is the map of these pages -/
structure PgMap (w : World) (m : Nat) (pg : Nat → Option Nat) (D : DataW Unit) : Prop where
  own : w.ownsMap Tryz.prog 3 pgR m (pgCount pg 256) D
  isMap : Go.Maps.IsMap D
  get : ∀ k, D.atKey (keyL k) (.lit (.int .i64 (-1))) = .lit (.int .i64 (pgI (pg k)))
  has : ∀ kl, Go.Maps.has D kl = true → ∃ k, kl = keyL k ∧ k < 256 ∧ (pg k).isSome = true
theorem PgMap.new (w : World) : PgMap (w.alloc (.map #[] 0)) w.heap.size (fun _ => none) (.map []) := by
  refine ⟨(World.ownsMap_made w Tryz.prog 3 pgR).mono (Nat.zero_le _), Go.Maps.isMap_empty, fun k => rfl, fun kl h => ?_⟩
  cases h
theorem PgMap.kept {w w' : World} {m : Nat} {pg : Nat → Option Nat} {D : DataW Unit} (h : PgMap w m pg D) (hb : w'.heap[m]? = w.heap[m]?) : PgMap w' m pg D := by
  refine ⟨?_, h.isMap, h.get, h.has⟩
  obtain ⟨es, clock, h1, h2⟩ := h.own
  exact ⟨es, clock, hb.trans h1, h2⟩
theorem pg_zero (w : World) : (zeroValue 137).run Tryz.prog w = .ok (.pointer none) w := by kernel_rfl
theorem PgMap.lookup {w : World} {m : Nat} {pg : Nat → Option Nat} {D : DataW Unit} (h : PgMap w m pg D) {k : Nat} (hk : k < 256) :
    (Instr.lookup 134 (.map (some m)) (.int .i64 k) false).run Tryz.prog w = .ok (pgV (pg k)) w := by
  obtain ⟨v, ps, hrun, hv⟩ := h.own.lookup keyI Tryz.underlying134 (pg_zero w) (pgR_V none) (keyOf_nat (k := k) (by omega))
  have hg : D.atKey (keyL k) (.lit (.int .i64 (pgI none))) = .lit (.int .i64 (pgI (pg k))) := h.get k
  rw [hg] at hv
  obtain ⟨p, rfl, hp⟩ := pgR_inj hv
  rw [pgI_inj hp]
  exact hrun
theorem keyL_key (k : Nat) : Go.WideAt.IsKeyLit (keyL k) := trivial
/-- what the map is with page k put in -/
theorem PgMap.put {w w' : World} {m : Nat} {pg : Nat → Option Nat} {D : DataW Unit} (h : PgMap w m pg D) {k : Nat} (hk : k < 256) (hn : pg k = none) (g : Nat)
    (hown : w'.ownsMap Tryz.prog 3 pgR m (pgCount pg 256 + 1) (D.put (keyL k) (.lit (.int .i64 (pgI (some g)))))) : PgMap w' m (pgSet pg k g) (D.put (keyL k) (.lit (.int .i64 (pgI (some g))))) := by
  refine ⟨by rw [pgCount_set pg k g 256 hk hn]; exact hown, h.isMap.put _ _, fun j => ?_, fun kl hkl => ?_⟩
  · by_cases hj : j = k
    · subst hj
      rw [Go.Maps.atKey_put_same h.isMap (keyL_key j)]
      simp [pgSet]
    · rw [Go.Maps.atKey_put_other (fun e => hj (keyL_inj e)), h.get j]
      simp [pgSet, hj]
  · by_cases hj : kl = keyL k
    · exact ⟨k, hj, hk, by simp [pgSet]⟩
    · rw [Go.Maps.has_put_other hj] at hkl
      obtain ⟨j, rfl, h1, h2⟩ := h.has kl hkl
      exact ⟨j, rfl, h1, by unfold pgSet; split <;> simp_all⟩

/-! ### the bytes -/
set_option maxRecDepth 100000
def pageArr (f : Nat → Nat) : Array Value := ((List.range 4096).map fun j => Value.int .u8 (f j)).toArray
theorem pageArr_get (f : Nat → Nat) (j : Nat) (h : j < 4096) : (pageArr f)[j]? = some (.int .u8 (f j)) := by
  unfold pageArr
  simp [h]
theorem pageArr_size (f : Nat → Nat) : (pageArr f).size = 4096 := by simp [pageArr]
theorem pageArr_congr {f g : Nat → Nat} (h : ∀ j, j < 4096 → f j = g j) : pageArr f = pageArr g := by
  unfold pageArr
  congr 1
  apply List.map_congr_left
  intro j hj
  rw [h j (List.mem_range.1 hj)]
def updB (ct : Nat → Nat) (i v : Nat) : Nat → Nat := fun j => if j = i then v else ct j
theorem pageArr_set (f : Nat → Nat) (j v : Nat) (h : j < 4096) : (pageArr f).setIfInBounds j (.int .u8 v) = pageArr (updB f j v) := by
  apply Array.ext_getElem?
  intro i
  rw [Array.getElem?_setIfInBounds]
  by_cases hi : i < 4096
  · rw [pageArr_get (updB f j v) _ hi]
    by_cases e : j = i
    · subst e
      rw [if_pos rfl, if_pos (by rw [pageArr_size]; exact hi)]
      simp [updB]
    · rw [if_neg e, pageArr_get _ _ hi]
      have : updB f j v i = f i := by unfold updB; rw [if_neg (by omega)]
      rw [this]
  · have h1 : (pageArr f)[i]? = none := by rw [Array.getElem?_eq_none]; rw [pageArr_size]; omega
    have h2 : (pageArr (updB f j v))[i]? = none := by rw [Array.getElem?_eq_none]; rw [pageArr_size]; omega
    rw [h1, h2]
    split
    · rw [if_neg (by rw [pageArr_size]; omega)]
    · rfl
theorem pageArr_zero : madeCells #[(.int .u8 0)] 4096 = pageArr fun _ => 0 := by
  unfold madeCells pageArr
  apply Array.ext'
  simp [Array.toList_range]
  intro a ha
  simp [Nat.mod_one]

/-- block b is a memory of n pages; m, pg: its map and its pages; ct: what its bytes are -/
structure RamIs (w : World) (b m n : Nat) (pg : Nat → Option Nat) (ct : Nat → Nat) : Prop where
  at_ : w.heap[b]? = some (.cells #[.int .i64 n, .map (some m)] 136 (0, 0))
  lo : 4 ≤ n
  hi : n ≤ 256
  map : ∃ D, PgMap w m pg D
  page : ∀ k g, pg k = some g → w.heap[g]? = some (.cells (pageArr fun j => ct (4096 * k + j)) 139 (0, 0))
  zero : ∀ k, pg k = none → ∀ j, j < 4096 → ct (4096 * k + j) = 0
  inj : ∀ k k' g, pg k = some g → pg k' = some g → k = k'
  bd : ∀ i, ct i < 256
  small : ∀ k, (pg k).isSome = true → k < 256
/-- the blocks that a memory may turn -/
def RamOwn (m : Nat) (pg : Nat → Option Nat) (g : Nat) : Prop := g = m ∨ ∃ k, pg k = some g
/-- the same, the map and pages untold: S is the blocks that it may turn -/
def RamAt (w : World) (b n : Nat) (ct : Nat → Nat) (S : Nat → Prop) : Prop := ∃ m pg, RamIs w b m n pg ct ∧ S = RamOwn m pg
theorem RamIs.map_lt {w : World} {b m n : Nat} {pg : Nat → Option Nat} {ct : Nat → Nat} (h : RamIs w b m n pg ct) : m < w.heap.size := by
  obtain ⟨D, hD⟩ := h.map
  exact hD.own.lt
theorem RamIs.map_is {w : World} {b m n : Nat} {pg : Nat → Option Nat} {ct : Nat → Nat} (h : RamIs w b m n pg ct) : ∃ es c, w.heap[m]? = some (.map es c) := by
  obtain ⟨D, hD⟩ := h.map
  obtain ⟨es, c, h1, _⟩ := hD.own
  exact ⟨es, c, h1⟩
/-- it lies in blocks that are there -/
theorem RamAt.lt {w : World} {b n : Nat} {ct : Nat → Nat} {S : Nat → Prop} (h : RamAt w b n ct S) {g : Nat} (hg : S g) : g < w.heap.size := by
  obtain ⟨m, pg, h, rfl⟩ := h
  rcases hg with rfl | ⟨k, hk⟩
  · exact h.map_lt
  · exact blk_lt (h.page k g hk)
theorem RamAt.self {w : World} {b n : Nat} {ct : Nat → Nat} {S : Nat → Prop} (h : RamAt w b n ct S) : ¬ S b ∧ b < w.heap.size := by
  obtain ⟨m, pg, h, rfl⟩ := h
  refine ⟨?_, blk_lt h.at_⟩
  rintro (rfl | ⟨k, hk⟩)
  · obtain ⟨es, c, hm⟩ := h.map_is
    rw [h.at_] at hm
    cases hm
  · have h1 := h.page k b hk
    rw [h.at_] at h1
    injection h1 with h1
    injection h1 with h1
    have := congrArg Array.size h1
    rw [pageArr_size] at this
    simp at this
/-- what turns none of its blocks leaves it -/
theorem RamIs.keep {w w' : World} {b m n : Nat} {pg : Nat → Option Nat} {ct : Nat → Nat} (h : RamIs w b m n pg ct) (hb : ∀ g, g = b ∨ RamOwn m pg g → w'.heap[g]? = w.heap[g]?) : RamIs w' b m n pg ct := by
  refine ⟨(hb b (.inl rfl)).trans h.at_, h.lo, h.hi, ?_, fun k g hk => (hb g (.inr (.inr ⟨k, hk⟩))).trans (h.page k g hk), h.zero, h.inj, h.bd, h.small⟩
  obtain ⟨D, hD⟩ := h.map
  exact ⟨D, hD.kept (hb m (.inr (.inl rfl)))⟩
theorem RamAt.turned {w w' : World} {b n : Nat} {ct : Nat → Nat} {S T : Nat → Prop} (h : RamAt w b n ct S) (ht : Turned T w w') (hb : ¬ T b) (hd : ∀ g, S g → ¬ T g) : RamAt w' b n ct S := by
  have hlt := fun g (hg : S g) => h.lt hg
  have hself := h.self
  obtain ⟨m, pg, h, rfl⟩ := h
  refine ⟨m, pg, h.keep ?_, rfl⟩
  rintro g (rfl | hg)
  · exact ht.block _ hself.2 hb
  · exact ht.block _ (hlt g hg) (hd g hg)
theorem RamAt.below {w w' : World} {b n : Nat} {ct : Nat → Nat} {S : Nat → Prop} (h : RamAt w b n ct S) (hb : Below w.heap.size w w') : RamAt w' b n ct S :=
  h.turned (T := fun _ => False) (.of_below hb _) (fun e => e) (fun _ _ e => e)
theorem RamAt.ext {w : World} {b n : Nat} {ct ct' : Nat → Nat} {S : Nat → Prop} (h : RamAt w b n ct S) (he : ∀ i, ct i = ct' i) : RamAt w b n ct' S := by
  obtain rfl : ct = ct' := funext he
  exact h
end Go.Proofs.YtkogjjeoihnjpaaGreat
end
section
set_option linter.unusedVariables false
set_option linter.unusedSimpArgs false
namespace Go.Proofs.YtkogjjeoihnjpaaGreat
open Go.RowKit
set_option maxRecDepth 100000 in
set_option maxHeartbeats 1000000 in
theorem ram_get {w : World} {b m n : Nat} {pg : Nat → Option Nat} {ct : Nat → Nat} (h : RamIs w b m n pg ct) (x : Int) (x0 : 0 ≤ x) (x1 : x < 1048576) :
    Calls Tryz.prog 137 #[.pointer (some ⟨b, 0, none⟩), .int .i64 x] w fun e w' => e = .returned (.int .u8 (ct x.toNat)) ∧ w = w' := by
  obtain ⟨k, hk⟩ := Int.eq_ofNat_of_zero_le (show 0 ≤ x / 4096 by omega)
  obtain ⟨j, hj⟩ := Int.eq_ofNat_of_zero_le (show 0 ≤ x % 4096 by omega)
  have hk2 : (k : Int) < 256 := by omega
  have hj2 : (j : Int) < 4096 := by omega
  have hx : Hid (x.toNat = 4096 * k + j) := by show _ = _; omega
  obtain ⟨D, hD⟩ := h.map
  have hl := hD.lookup (k := k) (by omega)
  have c0 : w.cell? ⟨b, 1, none⟩ = some (.map (some m)) := blk_cell h.at_ 1
  have HK := Lib.hid hk; have HJ := Lib.hid hj
  rcases hp : pg k with _ | g
  · have hz : Hid (ct x.toNat = 0) := by show _ = _; rw [hx.out]; exact h.zero k hp j (by omega)
    rw [hp] at hl
    simp only [pgV] at hl
    clear h hD hp
    go_enter Tryz.func137, Tryz.ntmps137
    go_wp2
    go_ret
    exact ⟨ret_int (by rw [hz.out]; rfl), rfl⟩
  · have hc : w.cell? ⟨g, j, none⟩ = some (.int .u8 (ct (4096 * k + j))) := (blk_cell (h.page k g hp) j).trans (pageArr_get _ _ (by omega))
    rw [hp] at hl
    simp only [pgV] at hl
    clear h hD hp
    go_enter Tryz.func137, Tryz.ntmps137
    go_wp2
    go_ret
    exact ⟨ret_int (by rw [hx.out]), rfl⟩
/-- the memory with other bytes: in its own blocks and in new ones -/
def RamTo (w w' : World) (b n : Nat) (ct : Nat → Nat) (S : Nat → Prop) : Prop := ∃ S', RamAt w' b n ct S' ∧ Turned S w w' ∧ ∀ g, S' g → S g ∨ w.heap.size ≤ g
theorem set_old {w : World} {b m n : Nat} {pg : Nat → Option Nat} {ct : Nat → Nat} (h : RamIs w b m n pg ct) {k j g : Nat} (hp : pg k = some g) (hj : j < 4096) (v : Nat) (hv : v < 256) :
    RamTo w (w.setCell ⟨g, j, none⟩ (.int .u8 v)) b n (updB ct (4096 * k + j) v) (RamOwn m pg) := by
  have hs := RamAt.self ⟨m, pg, h, rfl⟩
  have hgb : g ≠ b := by rintro rfl; exact hs.1 (.inr ⟨k, hp⟩)
  have hgm : g ≠ m := by
    rintro rfl
    obtain ⟨es, c, hm⟩ := h.map_is
    rw [h.page k g hp] at hm
    cases hm
  refine ⟨RamOwn m pg, ⟨m, pg, ⟨(blk_set_ne _ _ hgb).trans h.at_, h.lo, h.hi, ?_, fun k' g' hk' => ?_, fun k' hk' j' hj' => ?_, h.inj, fun i => ?_, h.small⟩, rfl⟩, ?_, fun _ => .inl⟩
  · obtain ⟨D, hD⟩ := h.map
    exact ⟨D, hD.kept (blk_set_ne _ _ hgm)⟩
  · by_cases e : g' = g
    · subst e
      obtain rfl := h.inj k k' g' hp hk'
      rw [blk_set (h.page k g' hp), pageArr_set _ _ _ hj]
      refine congrArg (fun c => some (Obj.cells c _ _)) (pageArr_congr fun i hi => ?_)
      unfold updB
      by_cases hij : i = j
      · subst hij; simp
      · rw [if_neg hij, if_neg (by omega)]
    · rw [blk_set_ne _ _ (fun h => e h.symm), h.page k' g' hk']
      refine congrArg (fun c => some (Obj.cells c _ _)) (pageArr_congr fun i hi => ?_)
      unfold updB
      rw [if_neg]
      intro hx
      have : k' = k := by omega
      subst this
      rw [hp] at hk'
      exact e (Option.some.inj hk').symm
  · unfold updB
    rw [if_neg]
    · exact h.zero k' hk' j' hj'
    · intro hx
      have : k' = k := by omega
      subst this
      rw [hp] at hk'
      cases hk'
  · unfold updB
    split
    · exact hv
    · exact h.bd i
  · exact (Turned.refl _ w).set (.inl (.inr ⟨k, hp⟩)) _ _
theorem set_new {w : World} {b m n : Nat} {pg : Nat → Option Nat} {ct : Nat → Nat} (h : RamIs w b m n pg ct) {k j : Nat} (hp : pg k = none) (hk : k < 256) (hj : j < 4096) (v : Nat) (hv : v < 256) {o : Obj} (ho : o = .cells (pageArr fun _ => 0) 139)
    {w1 : World} {D : DataW Unit} (hm : PgMap w1 m (pgSet pg k w.heap.size) D) (hg : (w.alloc o).grownBy w1 (some m)) :
    RamTo w (w1.setCell ⟨w.heap.size, j, none⟩ (.int .u8 v)) b n (updB ct (4096 * k + j) v) (RamOwn m pg) := by
  subst ho
  have hs := RamAt.self ⟨m, pg, h, rfl⟩
  have hlt : ∀ g, RamOwn m pg g → g < w.heap.size := fun g hg => RamAt.lt ⟨m, pg, h, rfl⟩ hg
  have hmg : m < w.heap.size := hlt m (.inl rfl)
  have hbm : b ≠ m := by rintro rfl; exact hs.1 (.inl rfl)
  have hold : ∀ g, g < w.heap.size → g ≠ m → (w1.setCell ⟨w.heap.size, j, none⟩ (.int .u8 v)).heap[g]? = w.heap[g]? := fun g hg1 hg2 => by
    rw [blk_set_ne _ _ (by simp; omega), hg.block g (by simp; omega) (by simpa using hg2), blk_alloc_old _ _ _ hg1]
  have hnew : w1.heap[w.heap.size]? = some (.cells (pageArr fun _ => 0) 139 (0, 0)) := by
    rw [hg.block w.heap.size (by simp) (by simp; omega), blk_alloc]
  refine ⟨RamOwn m (pgSet pg k w.heap.size), ⟨m, pgSet pg k w.heap.size, ⟨(hold b hs.2 hbm).trans h.at_, h.lo, h.hi, ⟨D, hm.kept (blk_set_ne _ _ (by simp; omega))⟩, fun k' g' hk' => ?_, fun k' hk' j' hj' => ?_, fun k1 k2 g' h1 h2 => ?_, fun i => ?_, fun k' hk' => ?_⟩, rfl⟩, ?_, ?_⟩
  · unfold pgSet at hk'
    by_cases e : k' = k
    · subst e
      rw [if_pos rfl] at hk'
      obtain rfl := Option.some.inj hk'
      rw [blk_set hnew, pageArr_set _ _ _ hj]
      refine congrArg (fun c => some (Obj.cells c _ _)) (pageArr_congr fun i hi => ?_)
      unfold updB
      by_cases hij : i = j
      · subst hij; simp
      · rw [if_neg hij, if_neg (by omega), h.zero k' hp i hi]
    · rw [if_neg e] at hk'
      have hgm : g' ≠ m := by
        rintro rfl
        obtain ⟨es, c, hm⟩ := h.map_is
        rw [h.page k' g' hk'] at hm
        cases hm
      rw [hold g' (hlt g' (.inr ⟨k', hk'⟩)) hgm, h.page k' g' hk']
      refine congrArg (fun c => some (Obj.cells c _ _)) (pageArr_congr fun i hi => ?_)
      unfold updB
      rw [if_neg (by omega)]
  · unfold pgSet at hk'
    by_cases e : k' = k
    · rw [if_pos e] at hk'; cases hk'
    · rw [if_neg e] at hk'
      unfold updB
      rw [if_neg (by omega)]
      exact h.zero k' hk' j' hj'
  · unfold pgSet at h1 h2
    by_cases e1 : k1 = k <;> by_cases e2 : k2 = k
    · rw [e1, e2]
    · rw [if_pos e1] at h1; rw [if_neg e2] at h2
      have := hlt g' (.inr ⟨k2, h2⟩)
      have := Option.some.inj h1
      omega
    · rw [if_neg e1] at h1; rw [if_pos e2] at h2
      have := hlt g' (.inr ⟨k1, h1⟩)
      have := Option.some.inj h2
      omega
    · rw [if_neg e1] at h1; rw [if_neg e2] at h2
      exact h.inj k1 k2 g' h1 h2
  · unfold updB
    split
    · exact hv
    · exact h.bd i
  · unfold pgSet at hk'
    by_cases e : k' = k
    · rw [e]; exact hk
    · rw [if_neg e] at hk'; exact h.small k' hk'
  · exact (((Turned.refl (RamOwn m pg) w).alloc (.cells (pageArr fun _ => 0) 139)).trans (Turned.of_grown hg) (by rintro _ rfl; exact .inl (.inl rfl))).set (.inr (Nat.le_refl _)) _ _
  · rintro g (rfl | ⟨k', hk'⟩)
    · exact .inl (.inl rfl)
    · unfold pgSet at hk'
      by_cases e : k' = k
      · rw [if_pos e] at hk'
        right
        have := Option.some.inj hk'
        omega
      · rw [if_neg e] at hk'
        exact .inl (.inr ⟨k', hk'⟩)
theorem zero_page : Tryz.zeroCells139 = pageArr fun _ => 0 := by kernel_rfl
theorem new_page {w w1 : World} {m j : Nat} (hg : (w.alloc (.cells Tryz.zeroCells139 139)).grownBy w1 (some m)) (hj : j < 4096) (hm : m < w.heap.size) : w1.cell? ⟨w.heap.size, j, none⟩ = some (.int .u8 0) ∧ w1.frozen? ⟨w.heap.size, j, none⟩ = false := by
  have hnew : w1.heap[w.heap.size]? = some (.cells (pageArr fun _ => 0) 139 (0, 0)) := by
    rw [hg.block w.heap.size (by simp) (by simp; omega), blk_alloc, zero_page]
  exact ⟨(blk_cell hnew j).trans (pageArr_get _ _ hj), blk_frozen hnew j⟩
set_option maxRecDepth 100000 in
set_option maxHeartbeats 1000000 in
theorem ram_set {w : World} {b m n : Nat} {pg : Nat → Option Nat} {ct : Nat → Nat} (h : RamIs w b m n pg ct) (x : Int) (x0 : 0 ≤ x) (x1 : x < 1048576) (v : Nat) (hv : v < 256) :
    Calls Tryz.prog 252 #[.pointer (some ⟨b, 0, none⟩), .int .i64 x, .int .u8 v] w fun e w' => e = .returned (.tuple #[]) ∧ RamTo w w' b n (updB ct x.toNat v) (RamOwn m pg) := by
  obtain ⟨k, hk⟩ := Int.eq_ofNat_of_zero_le (show 0 ≤ x / 4096 by omega)
  obtain ⟨j, hj⟩ := Int.eq_ofNat_of_zero_le (show 0 ≤ x % 4096 by omega)
  have hk2 : (k : Int) < 256 := by omega
  have hj2 : (j : Int) < 4096 := by omega
  have hx : Hid (x.toNat = 4096 * k + j) := by show _ = _; omega
  obtain ⟨D, hD⟩ := h.map
  have hl := hD.lookup (k := k) (by omega)
  have c0 : w.cell? ⟨b, 1, none⟩ = some (.map (some m)) := blk_cell h.at_ 1
  have HV := Lib.hid hv
  clear hv
  rcases hp : pg k with _ | g
  · rw [hp] at hl
    simp only [pgV] at hl
    have HH := Lib.hid h
    have HP := Lib.hid hp
    have HD := Lib.hid hD
    clear h hD hp
    go_enter Tryz.func252, Tryz.ntmps252
    have HKEY : Hid (keyOf Tryz.prog 3 (.int .i64 (x / 4096)) = some (keyL k)) := by show _ = _; rw [hk]; exact keyOf_nat (by omega)
    have hbl : b < w.heap.size := (RamAt.self ⟨m, pg, HH.out, rfl⟩).2
    go_wp2_with (at_mapUpdate; refine wpList_mapUpdate_own _ rfl _ _ _ 134 rfl 3 137 keyI Tryz.underlying134 pgR m (pgCount pg 256) D rfl (HD.out.own.alloc _) (Nat.lt_of_le_of_lt (pgCount_le pg 256) (by decide)) _ _ (keyL k) rfl rfl HKEY.out _ [] (pgR_V (some w.heap.size)) ?_; intro w1 hown1 hgrow1; have HN := Lib.hid (new_page hgrow1 (j := j) (by omega) HD.out.own.lt); have cN := HN.out.1; have fN := HN.out.2; have HS := Lib.hid (set_new (j := j) HH.out HP.out (by omega) (by omega) v HV.out (by rw [zero_page]) (HD.out.put (by omega) HP.out w.heap.size hown1) hgrow1); clear hown1 hgrow1 HD HH HKEY)
    go_end0
    exact ⟨rfl, by rw [hx.out]; exact HS.out⟩
  · have hc : w.cell? ⟨g, j, none⟩ = some (.int .u8 (ct (4096 * k + j))) := (blk_cell (h.page k g hp) j).trans (pageArr_get _ _ (by omega))
    have hf : w.frozen? ⟨g, j, none⟩ = false := blk_frozen (h.page k g hp) j
    have HS : Hid (RamTo w (w.setCell ⟨g, j, none⟩ (.int .u8 v)) b n (updB ct x.toNat v) (RamOwn m pg)) := by show RamTo _ _ _ _ _ _; rw [hx.out]; exact set_old h hp (by omega) v HV.out
    rw [hp] at hl
    simp only [pgV] at hl
    clear h hD hp
    go_enter Tryz.func252, Tryz.ntmps252
    go_wp2
    go_end0
    exact ⟨rfl, HS.out⟩
end Go.Proofs.YtkogjjeoihnjpaaGreat
end
section
set_option linter.unusedVariables false
set_option linter.unusedSimpArgs false
namespace Go.Proofs.YtkogjjeoihnjpaaGreat
open Go.RowKit
/-- the region of an address: its kind, base and size, and how far the address is above its base -/
def pmaFind (n : Nat) (x : Int) : Int × Int × Int × Int :=
  if 4096 ≤ x ∧ x < 8192 then (1, 4096, 4096, x - 4096) else if 33554432 ≤ x ∧ x < 33619968 then (2, 33554432, 65536, x - 33554432)
  else if 201326592 ≤ x ∧ x < 205520896 then (3, 201326592, 4194304, x - 201326592) else if 268435456 ≤ x ∧ x < 268439552 then (4, 268435456, 4096, x - 268435456)
  else if 2147483648 ≤ x ∧ x < 2147483648 + n * 4096 then (5, 2147483648, n * 4096, x - 2147483648) else (0, 0, 0, 0)
set_option maxRecDepth 100000 in
set_option maxHeartbeats 1000000 in
theorem pma_regions (n : Nat) (h4 : 4 ≤ n) (h256 : n ≤ 256) (w : World) :
    Calls Tryz.prog 265 #[.int .i64 n] w fun e w' => e = .returned (.slice (some ⟨w.heap.size, 0, none⟩) 5 5) ∧ w' = w.alloc (.cells #[.int .i64 1, .int .u64 4096, .int .u64 4096, .int .i64 2, .int .u64 33554432, .int .u64 65536, .int .i64 3, .int .u64 201326592, .int .u64 4194304, .int .i64 4, .int .u64 268435456, .int .u64 4096, .int .i64 5, .int .u64 2147483648, .int .u64 ((n : Int) * 4096)] 225) := by
  go_enter Tryz.func265, Tryz.ntmps265
  go_wp2
  go_ret
  exact ⟨rfl, rfl⟩
def FindIs (n : Nat) (x : Int) (w : World) (e : Ending) (w' : World) : Prop := e = .returned (.tuple #[.agg #[.int .i64 (pmaFind n x).1, .int .u64 (pmaFind n x).2.1, .int .u64 (pmaFind n x).2.2.1], .int .u64 (pmaFind n x).2.2.2]) ∧ Below w.heap.size w w'
theorem FindIs.of {n : Nat} {x : Int} {w : World} {e : Ending} {w' : World} (k b s o : Int) (hp : Hid (pmaFind n x = (k, b, s, o))) (he : e = .returned (.tuple #[.agg #[.int .i64 k, .int .u64 b, .int .u64 s], .int .u64 o])) (hb : Below w.heap.size w w') : FindIs n x w e w' := by
  unfold FindIs
  rw [hp.out]
  exact ⟨he, hb⟩

set_option maxRecDepth 100000 in
set_option maxHeartbeats 4000000 in
theorem pma_find_r1 (n : Nat) (h4 : 4 ≤ n) (h256 : n ≤ 256) (x : Int) (h0 : 4096 ≤ x) (h1 : x < 8192) (w : World) :
    Calls Tryz.prog 236 #[.int .i64 n, .int .u64 x] w (FindIs n x w) := by
  have hp := Lib.hid (show pmaFind n x = (1, 4096, 4096, x - 4096) by unfold pmaFind; repeat (first | rfl | rw [if_pos (by omega)] | rw [if_neg (by omega)]))
  go_enter Tryz.func236, Tryz.ntmps236
  go_wp2_with fail
  refine (pma_regions n h4 h256 _).mono ?_
  rintro e w1 ⟨rfl, rfl⟩
  go_wp2_with fail
  go_rounds 6
  all_goals (try go_region)
  all_goals (try go_wp2_with fail)
  all_goals exact bodyPost_ret (v := .tuple #[.agg #[.int .i64 (1), .int .u64 (4096), .int .u64 (4096)], .int .u64 (x - 4096)]) (by simp [results, Tryz.results236, go_sem]) rfl (FindIs.of _ _ _ _ hp rfl (by go_grown))


set_option maxRecDepth 100000 in
set_option maxHeartbeats 4000000 in
theorem pma_find_r2 (n : Nat) (h4 : 4 ≤ n) (h256 : n ≤ 256) (x : Int) (h0 : 33554432 ≤ x) (h1 : x < 33619968) (w : World) :
    Calls Tryz.prog 236 #[.int .i64 n, .int .u64 x] w (FindIs n x w) := by
  have hp := Lib.hid (show pmaFind n x = (2, 33554432, 65536, x - 33554432) by unfold pmaFind; repeat (first | rfl | rw [if_pos (by omega)] | rw [if_neg (by omega)]))
  go_enter Tryz.func236, Tryz.ntmps236
  go_wp2_with fail
  refine (pma_regions n h4 h256 _).mono ?_
  rintro e w1 ⟨rfl, rfl⟩
  go_wp2_with fail
  go_rounds 6
  all_goals (try go_region)
  all_goals (try go_wp2_with fail)
  all_goals exact bodyPost_ret (v := .tuple #[.agg #[.int .i64 (2), .int .u64 (33554432), .int .u64 (65536)], .int .u64 (x - 33554432)]) (by simp [results, Tryz.results236, go_sem]) rfl (FindIs.of _ _ _ _ hp rfl (by go_grown))


set_option maxRecDepth 100000 in
set_option maxHeartbeats 4000000 in
theorem pma_find_r3 (n : Nat) (h4 : 4 ≤ n) (h256 : n ≤ 256) (x : Int) (h0 : 201326592 ≤ x) (h1 : x < 205520896) (w : World) :
    Calls Tryz.prog 236 #[.int .i64 n, .int .u64 x] w (FindIs n x w) := by
  have hp := Lib.hid (show pmaFind n x = (3, 201326592, 4194304, x - 201326592) by unfold pmaFind; repeat (first | rfl | rw [if_pos (by omega)] | rw [if_neg (by omega)]))
  go_enter Tryz.func236, Tryz.ntmps236
  go_wp2_with fail
  refine (pma_regions n h4 h256 _).mono ?_
  rintro e w1 ⟨rfl, rfl⟩
  go_wp2_with fail
  go_rounds 6
  all_goals (try go_region)
  all_goals (try go_wp2_with fail)
  all_goals exact bodyPost_ret (v := .tuple #[.agg #[.int .i64 (3), .int .u64 (201326592), .int .u64 (4194304)], .int .u64 (x - 201326592)]) (by simp [results, Tryz.results236, go_sem]) rfl (FindIs.of _ _ _ _ hp rfl (by go_grown))


set_option maxRecDepth 100000 in
set_option maxHeartbeats 4000000 in
theorem pma_find_r4 (n : Nat) (h4 : 4 ≤ n) (h256 : n ≤ 256) (x : Int) (h0 : 268435456 ≤ x) (h1 : x < 268439552) (w : World) :
    Calls Tryz.prog 236 #[.int .i64 n, .int .u64 x] w (FindIs n x w) := by
  have hp := Lib.hid (show pmaFind n x = (4, 268435456, 4096, x - 268435456) by unfold pmaFind; repeat (first | rfl | rw [if_pos (by omega)] | rw [if_neg (by omega)]))
  go_enter Tryz.func236, Tryz.ntmps236
  go_wp2_with fail
  refine (pma_regions n h4 h256 _).mono ?_
  rintro e w1 ⟨rfl, rfl⟩
  go_wp2_with fail
  go_rounds 6
  all_goals (try go_region)
  all_goals (try go_wp2_with fail)
  all_goals exact bodyPost_ret (v := .tuple #[.agg #[.int .i64 (4), .int .u64 (268435456), .int .u64 (4096)], .int .u64 (x - 268435456)]) (by simp [results, Tryz.results236, go_sem]) rfl (FindIs.of _ _ _ _ hp rfl (by go_grown))


set_option maxRecDepth 100000 in
set_option maxHeartbeats 4000000 in
theorem pma_find_ram (n : Nat) (h4 : 4 ≤ n) (h256 : n ≤ 256) (x : Int) (h0 : 2147483648 ≤ x) (h1 : x < 2147483648 + n * 4096) (w : World) :
    Calls Tryz.prog 236 #[.int .i64 n, .int .u64 x] w (FindIs n x w) := by
  have hp := Lib.hid (show pmaFind n x = (5, 2147483648, (n : Int) * 4096, x - 2147483648) by unfold pmaFind; repeat (first | rfl | rw [if_pos (by omega)] | rw [if_neg (by omega)]))
  go_enter Tryz.func236, Tryz.ntmps236
  go_wp2_with fail
  refine (pma_regions n h4 h256 _).mono ?_
  rintro e w1 ⟨rfl, rfl⟩
  go_wp2_with fail
  go_rounds 6
  all_goals (try go_region)
  all_goals (try go_wp2_with fail)
  all_goals exact bodyPost_ret (v := .tuple #[.agg #[.int .i64 (5), .int .u64 (2147483648), .int .u64 ((n : Int) * 4096)], .int .u64 (x - 2147483648)]) (by simp [results, Tryz.results236, go_sem]) rfl (FindIs.of _ _ _ _ hp rfl (by go_grown))


set_option maxRecDepth 100000 in
set_option maxHeartbeats 4000000 in
theorem pma_find_g1 (n : Nat) (h4 : 4 ≤ n) (h256 : n ≤ 256) (x : Int) (h0 : 0 ≤ x) (h1 : x < 4096) (w : World) :
    Calls Tryz.prog 236 #[.int .i64 n, .int .u64 x] w (FindIs n x w) := by
  have hp := Lib.hid (show pmaFind n x = (0, 0, 0, 0) by unfold pmaFind; repeat (first | rfl | rw [if_pos (by omega)] | rw [if_neg (by omega)]))
  go_enter Tryz.func236, Tryz.ntmps236
  go_wp2_with fail
  refine (pma_regions n h4 h256 _).mono ?_
  rintro e w1 ⟨rfl, rfl⟩
  go_wp2_with fail
  go_rounds 6
  all_goals (try go_region)
  all_goals (try go_wp2_with fail)
  all_goals exact bodyPost_ret (v := .tuple #[.agg #[.int .i64 (0), .int .u64 (0), .int .u64 (0)], .int .u64 (0)]) (by simp [results, Tryz.results236, go_sem]) rfl (FindIs.of _ _ _ _ hp rfl (by go_grown))


set_option maxRecDepth 100000 in
set_option maxHeartbeats 4000000 in
theorem pma_find_g2 (n : Nat) (h4 : 4 ≤ n) (h256 : n ≤ 256) (x : Int) (h0 : 8192 ≤ x) (h1 : x < 33554432) (w : World) :
    Calls Tryz.prog 236 #[.int .i64 n, .int .u64 x] w (FindIs n x w) := by
  have hp := Lib.hid (show pmaFind n x = (0, 0, 0, 0) by unfold pmaFind; repeat (first | rfl | rw [if_pos (by omega)] | rw [if_neg (by omega)]))
  go_enter Tryz.func236, Tryz.ntmps236
  go_wp2_with fail
  refine (pma_regions n h4 h256 _).mono ?_
  rintro e w1 ⟨rfl, rfl⟩
  go_wp2_with fail
  go_rounds 6
  all_goals (try go_region)
  all_goals (try go_wp2_with fail)
  all_goals exact bodyPost_ret (v := .tuple #[.agg #[.int .i64 (0), .int .u64 (0), .int .u64 (0)], .int .u64 (0)]) (by simp [results, Tryz.results236, go_sem]) rfl (FindIs.of _ _ _ _ hp rfl (by go_grown))


set_option maxRecDepth 100000 in
set_option maxHeartbeats 4000000 in
theorem pma_find_g3 (n : Nat) (h4 : 4 ≤ n) (h256 : n ≤ 256) (x : Int) (h0 : 33619968 ≤ x) (h1 : x < 201326592) (w : World) :
    Calls Tryz.prog 236 #[.int .i64 n, .int .u64 x] w (FindIs n x w) := by
  have hp := Lib.hid (show pmaFind n x = (0, 0, 0, 0) by unfold pmaFind; repeat (first | rfl | rw [if_pos (by omega)] | rw [if_neg (by omega)]))
  go_enter Tryz.func236, Tryz.ntmps236
  go_wp2_with fail
  refine (pma_regions n h4 h256 _).mono ?_
  rintro e w1 ⟨rfl, rfl⟩
  go_wp2_with fail
  go_rounds 6
  all_goals (try go_region)
  all_goals (try go_wp2_with fail)
  all_goals exact bodyPost_ret (v := .tuple #[.agg #[.int .i64 (0), .int .u64 (0), .int .u64 (0)], .int .u64 (0)]) (by simp [results, Tryz.results236, go_sem]) rfl (FindIs.of _ _ _ _ hp rfl (by go_grown))


set_option maxRecDepth 100000 in
set_option maxHeartbeats 4000000 in
theorem pma_find_g4 (n : Nat) (h4 : 4 ≤ n) (h256 : n ≤ 256) (x : Int) (h0 : 205520896 ≤ x) (h1 : x < 268435456) (w : World) :
    Calls Tryz.prog 236 #[.int .i64 n, .int .u64 x] w (FindIs n x w) := by
  have hp := Lib.hid (show pmaFind n x = (0, 0, 0, 0) by unfold pmaFind; repeat (first | rfl | rw [if_pos (by omega)] | rw [if_neg (by omega)]))
  go_enter Tryz.func236, Tryz.ntmps236
  go_wp2_with fail
  refine (pma_regions n h4 h256 _).mono ?_
  rintro e w1 ⟨rfl, rfl⟩
  go_wp2_with fail
  go_rounds 6
  all_goals (try go_region)
  all_goals (try go_wp2_with fail)
  all_goals exact bodyPost_ret (v := .tuple #[.agg #[.int .i64 (0), .int .u64 (0), .int .u64 (0)], .int .u64 (0)]) (by simp [results, Tryz.results236, go_sem]) rfl (FindIs.of _ _ _ _ hp rfl (by go_grown))


set_option maxRecDepth 100000 in
set_option maxHeartbeats 4000000 in
theorem pma_find_g5 (n : Nat) (h4 : 4 ≤ n) (h256 : n ≤ 256) (x : Int) (h0 : 268439552 ≤ x) (h1 : x < 2147483648) (w : World) :
    Calls Tryz.prog 236 #[.int .i64 n, .int .u64 x] w (FindIs n x w) := by
  have hp := Lib.hid (show pmaFind n x = (0, 0, 0, 0) by unfold pmaFind; repeat (first | rfl | rw [if_pos (by omega)] | rw [if_neg (by omega)]))
  go_enter Tryz.func236, Tryz.ntmps236
  go_wp2_with fail
  refine (pma_regions n h4 h256 _).mono ?_
  rintro e w1 ⟨rfl, rfl⟩
  go_wp2_with fail
  go_rounds 6
  all_goals (try go_region)
  all_goals (try go_wp2_with fail)
  all_goals exact bodyPost_ret (v := .tuple #[.agg #[.int .i64 (0), .int .u64 (0), .int .u64 (0)], .int .u64 (0)]) (by simp [results, Tryz.results236, go_sem]) rfl (FindIs.of _ _ _ _ hp rfl (by go_grown))


set_option maxRecDepth 100000 in
set_option maxHeartbeats 4000000 in
theorem pma_find_g6 (n : Nat) (h4 : 4 ≤ n) (h256 : n ≤ 256) (x : Int) (h0 : 2147483648 + n * 4096 ≤ x) (h1 : x < 18446744073709551616) (w : World) :
    Calls Tryz.prog 236 #[.int .i64 n, .int .u64 x] w (FindIs n x w) := by
  have hp := Lib.hid (show pmaFind n x = (0, 0, 0, 0) by unfold pmaFind; repeat (first | rfl | rw [if_pos (by omega)] | rw [if_neg (by omega)]))
  go_enter Tryz.func236, Tryz.ntmps236
  go_wp2_with fail
  refine (pma_regions n h4 h256 _).mono ?_
  rintro e w1 ⟨rfl, rfl⟩
  go_wp2_with fail
  go_rounds 6
  all_goals (try go_region)
  all_goals (try go_wp2_with fail)
  all_goals exact bodyPost_ret (v := .tuple #[.agg #[.int .i64 (0), .int .u64 (0), .int .u64 (0)], .int .u64 (0)]) (by simp [results, Tryz.results236, go_sem]) rfl (FindIs.of _ _ _ _ hp rfl (by go_grown))

theorem pma_find (n : Nat) (h4 : 4 ≤ n) (h256 : n ≤ 256) (x : Int) (h0 : 0 ≤ x) (h1 : x < 18446744073709551616) (w : World) : Calls Tryz.prog 236 #[.int .i64 n, .int .u64 x] w (FindIs n x w) := by
  by_cases a1 : x < 4096; exact pma_find_g1 n h4 h256 x h0 a1 w
  by_cases a2 : x < 8192; exact pma_find_r1 n h4 h256 x (by omega) a2 w
  by_cases a3 : x < 33554432; exact pma_find_g2 n h4 h256 x (by omega) a3 w
  by_cases a4 : x < 33619968; exact pma_find_r2 n h4 h256 x (by omega) a4 w
  by_cases a5 : x < 201326592; exact pma_find_g3 n h4 h256 x (by omega) a5 w
  by_cases a6 : x < 205520896; exact pma_find_r3 n h4 h256 x (by omega) a6 w
  by_cases a7 : x < 268435456; exact pma_find_g4 n h4 h256 x (by omega) a7 w
  by_cases a8 : x < 268439552; exact pma_find_r4 n h4 h256 x (by omega) a8 w
  by_cases a9 : x < 2147483648; exact pma_find_g5 n h4 h256 x (by omega) a9 w
  by_cases b1 : x < 2147483648 + n * 4096; exact pma_find_ram n h4 h256 x (by omega) b1 w
  exact pma_find_g6 n h4 h256 x (by omega) h1 w
end Go.Proofs.YtkogjjeoihnjpaaGreat
end
section
set_option linter.unusedVariables false
set_option linter.unusedSimpArgs false
namespace Go.Proofs.YtkogjjeoihnjpaaGreat
open Go.RowKit
set_option maxRecDepth 100000 in
set_option maxHeartbeats 1000000 in
theorem pma_region (n : Nat) (h4 : 4 ≤ n) (h256 : n ≤ 256) (x : Int) (h0 : 0 ≤ x) (h1 : x < 18446744073709551616) (w : World) :
    Calls Tryz.prog 149 #[.int .i64 n, .int .u64 x] w fun e w' => e = .returned (.int .i64 (pmaFind n x).1) ∧ Below w.heap.size w w' := by
  have F := Lib.hid (pma_find n h4 h256 x h0 h1)
  clear h0 h1
  generalize hk : pmaFind n x = K at *
  have HK := Lib.hid hk
  clear hk
  go_enter Tryz.func149, Tryz.ntmps149
  go_wp2_with fail
  refine (F.out _).mono ?_
  rintro e w1 ⟨rfl, hb⟩
  rw [HK.out]
  have HB := Lib.hid hb
  clear hb
  go_wp2_with fail
  go_ret
  exact ⟨rfl, by have := HB.out; have hs := HB.out.size; go_grown⟩
set_option maxRecDepth 100000 in
set_option maxHeartbeats 1000000 in
theorem pma_offset (n : Nat) (h4 : 4 ≤ n) (h256 : n ≤ 256) (x : Int) (h0 : 0 ≤ x) (h1 : x < 18446744073709551616) (w : World) :
    Calls Tryz.prog 152 #[.int .i64 n, .int .u64 x] w fun e w' => e = .returned (.int .u64 (pmaFind n x).2.2.2) ∧ Below w.heap.size w w' := by
  have F := Lib.hid (pma_find n h4 h256 x h0 h1)
  clear h0 h1
  generalize hk : pmaFind n x = K at *
  have HK := Lib.hid hk
  clear hk
  go_enter Tryz.func152, Tryz.ntmps152
  go_wp2_with fail
  refine (F.out _).mono ?_
  rintro e w1 ⟨rfl, hb⟩
  rw [HK.out]
  have HB := Lib.hid hb
  clear hb
  go_wp2_with fail
  go_ret
  exact ⟨rfl, by have := HB.out; have hs := HB.out.size; go_grown⟩
/-- an address of memory -/
def isRam (n : Nat) (x : Int) : Bool := decide (2147483648 ≤ x ∧ x < 2147483648 + n * 4096)
theorem isRam_find (n : Nat) (x : Int) : decide ((pmaFind n x).1 = 5) = isRam n x := by
  unfold pmaFind isRam
  repeat' split
  all_goals simp
  all_goals omega
theorem isRam_off (n : Nat) (x : Int) (h : isRam n x = true) : (pmaFind n x).2.2.2 = x - 2147483648 := by
  unfold isRam at h
  simp only [decide_eq_true_eq] at h
  unfold pmaFind
  repeat (first | rfl | rw [if_pos (by omega)] | rw [if_neg (by omega)])
set_option maxRecDepth 100000 in
set_option maxHeartbeats 1000000 in
theorem pma_cached (n : Nat) (h4 : 4 ≤ n) (h256 : n ≤ 256) (x : Int) (h0 : 0 ≤ x) (h1 : x < 18446744073709551616) (w : World) :
    Calls Tryz.prog 228 #[.int .i64 n, .int .u64 x] w fun e w' => e = .returned (.bool (isRam n x)) ∧ Below w.heap.size w w' := by
  have F := Lib.hid (pma_region n h4 h256 x h0 h1)
  clear h0 h1
  have HK := Lib.hid (isRam_find n x)
  generalize (pmaFind n x).1 = K at *
  generalize isRam n x = R at *
  go_enter Tryz.func228, Tryz.ntmps228
  go_wp2_with fail
  refine (F.out _).mono ?_
  rintro e w1 ⟨rfl, hb⟩
  have HB := Lib.hid hb
  clear hb
  go_wp2_with fail
  go_ret
  exact ⟨ret_bool (by rw [← HK.out]; first | rfl | (simp; done) | (by_cases h : K = 5 <;> simp [h])), HB.out⟩
end Go.Proofs.YtkogjjeoihnjpaaGreat
end
section
set_option linter.unusedVariables false
set_option linter.unusedSimpArgs false
namespace Go.Proofs.YtkogjjeoihnjpaaGreat
open Go.RowKit
/-- are so many bytes from there on memory? -/
def ramAll (n : Nat) (x : Int) (m : Int) : Bool := decide (m = 0) || (isRam n x && decide (x - 2147483648 + m ≤ n * 4096))
set_option maxRecDepth 100000 in
set_option maxHeartbeats 16000000 in
theorem ram_all {w : World} {b m n : Nat} {pg : Nat → Option Nat} {ct : Nat → Nat} (h : RamIs w b m n pg ct) (x : Int) (x0 : 0 ≤ x) (x1 : x < 18446744073709551616) (k : Int) (k0 : 0 ≤ k) (k1 : k < 9223372036854775808) :
    Calls Tryz.prog 136 #[.pointer (some ⟨b, 0, none⟩), .int .u64 x, .int .i64 k] w fun e w' => e = .returned (.bool (ramAll n x k)) ∧ Below w.heap.size w w' := by
  have c0 : w.cell? ⟨b, 0, none⟩ = some (.int .i64 n) := blk_cell h.at_ 0
  have hbl : b < w.heap.size := (RamAt.self ⟨m, pg, h, rfl⟩).2
  have h4 := h.lo; have h256 := h.hi
  have HC := Lib.hid (pma_cached n h4 h256 x x0 x1)
  have HO := Lib.hid (pma_offset n h4 h256 x x0 x1)
  have HX := Lib.hid (show isRam n x = true → (pmaFind n x).2.2.2 = x - 2147483648 ∧ 2147483648 ≤ x ∧ x < 2147483648 + n * 4096 from fun hh => ⟨isRam_off n x hh, by simpa [isRam] using hh⟩)
  have H4 := Lib.hid h4
  have hn4 : (4 : Int) ≤ n := by omega
  have hn256 : (n : Int) ≤ 256 := by omega
  clear h h4 h256
  by_cases hk : k = 0
  · subst hk
    have HA : Hid (ramAll n x 0 = true) := rfl
    go_enter Tryz.func136, Tryz.ntmps136
    go_wp2
    go_ret
    exact ⟨ret_bool HA.out.symm, Below.refl _ _⟩
  cases hr : isRam n x with
  | false =>
    have HA : Hid (ramAll n x k = false) := by show _ = _; unfold ramAll; rw [hr]; simp [hk]
    rw [hr] at HC
    go_enter Tryz.func136, Tryz.ntmps136
    go_wp2_with fail
    refine wp_region_held_drew (S := fun w' => w'.cell? ⟨b, 0, none⟩ = some (.int .i64 n) ∧ Below w.heap.size w w') (by kernel_rfl) ⟨c0, (Below.refl _ _).drew⟩ (fun hH => ?_)
    refine wpAnyH_take (i := 0) (oi := ⟨some 9, _, _, _, _, _⟩) (v := ?_) rfl (by kernel_rfl) (by kernel_rfl) (by kernel_rfl) (fun _ _ _ h => h) (Or.inl ⟨by kernel_rfl, ?_⟩) hH ?_
    rotate_left 1
    · intro wq hq; have hq1 := hq.1; first | (go_simp; done) | (go_simp; with_reducible rfl)
    simp only [Act.put, List.setIfInBounds_toArray, List.set_cons_zero, List.set_cons_succ]
    refine wpAnyH_take (i := 1) (oi := ⟨some 10, _, _, _, _, _⟩) (v := ?_) rfl (by kernel_rfl) (by kernel_rfl) (by kernel_rfl) (fun _ _ _ h => h) (Or.inl ⟨by kernel_rfl, ?_⟩) hH ?_
    rotate_left 1
    · intro wq hq; have hq1 := hq.1; first | (go_simp; done) | (go_simp; with_reducible rfl)
    simp only [Act.put, List.setIfInBounds_toArray, List.set_cons_zero, List.set_cons_succ]
    refine wpAnyH_take (i := 2) (oi := ⟨some 11, _, _, _, _, _⟩) (v := ?_) rfl (by kernel_rfl) (by kernel_rfl) (by kernel_rfl) (fun _ _ _ h => h) (Or.inl ⟨by kernel_rfl, ?_⟩) hH ?_
    rotate_left 1
    · intro wq hq; have hq1 := hq.1; first | (go_simp; done) | (go_simp; with_reducible rfl)
    simp only [Act.put, List.setIfInBounds_toArray, List.set_cons_zero, List.set_cons_succ]
    refine wpAnyH_take (i := 3) (oi := ⟨some 12, _, _, _, _, _⟩) (v := ?_) rfl (by kernel_rfl) (by kernel_rfl) (by kernel_rfl) (fun _ _ _ h => h) (Or.inl ⟨by kernel_rfl, ?_⟩) hH ?_
    rotate_left 1
    · intro wq hq; have hq1 := hq.1; first | (go_simp; done) | (go_simp; with_reducible rfl)
    simp only [Act.put, List.setIfInBounds_toArray, List.set_cons_zero, List.set_cons_succ]
    refine wpAnyH_take (i := 4) (oi := ⟨some 13, _, _, _, _, _⟩) (v := ?_) rfl (by kernel_rfl) (by kernel_rfl) (by kernel_rfl) (fun _ _ _ h => h) (Or.inl ⟨by kernel_rfl, ?_⟩) hH ?_
    rotate_left 1
    · intro wq hq; have hq1 := hq.1; first | (go_simp; done) | (go_simp; with_reducible rfl)
    simp only [Act.put, List.setIfInBounds_toArray, List.set_cons_zero, List.set_cons_succ]
    refine wpAnyH_ready (rs := [5]) (by kernel_rfl) (by simp) (AllReadyH.cons (o := ⟨some 14, _, _, _, _, _⟩) rfl (fun K hK => ?_) AllReadyH.nil)
    go_simp
    refine (HC.out _).mono ?_
    rintro e w1 ⟨rfl, hb1⟩
    go_wp2_with fail
    refine hK.out _ _ ?_ (fun hH => ?_)
    · have hs := hH.2.size; exact ⟨(hb1.cell (p := ⟨b, 0, none⟩) (by first | omega | (simp; omega))).trans hH.1, below_then hH.2 hb1 hH.2.size⟩
    clear hK K
    try simp only [Act.put, List.setIfInBounds_toArray, List.set_cons_zero, List.set_cons_succ]
    refine wpAnyH_take (i := 6) (oi := ⟨some 15, _, _, _, _, _⟩) (v := ?_) rfl (by kernel_rfl) (by kernel_rfl) (by kernel_rfl) (fun _ _ _ h => h) (Or.inl ⟨by kernel_rfl, ?_⟩) hH ?_
    rotate_left 1
    · intro wq hq; have hq1 := hq.1; first | (go_simp; done) | (go_simp; with_reducible rfl)
    simp only [Act.put, List.setIfInBounds_toArray, List.set_cons_zero, List.set_cons_succ]
    refine wpAnyH_take (i := 7) (oi := ⟨some 16, _, _, _, _, _⟩) (v := undef) rfl (by kernel_rfl) (by kernel_rfl) (by kernel_rfl) (fun _ _ _ h => h) (Or.inr ⟨by kernel_rfl, rfl⟩) hH ?_
    simp only [Act.put, List.setIfInBounds_toArray, List.set_cons_zero, List.set_cons_succ]
    refine wpAnyH_take (i := 8) (oi := ⟨some 17, _, _, _, _, _⟩) (v := undef) rfl (by kernel_rfl) (by kernel_rfl) (by kernel_rfl) (fun _ _ _ h => h) (Or.inr ⟨by kernel_rfl, rfl⟩) hH ?_
    simp only [Act.put, List.setIfInBounds_toArray, List.set_cons_zero, List.set_cons_succ]
    refine wpAnyH_take (i := 9) (oi := ⟨some 18, _, _, _, _, _⟩) (v := undef) rfl (by kernel_rfl) (by kernel_rfl) (by kernel_rfl) (fun _ _ _ h => h) (Or.inr ⟨by kernel_rfl, rfl⟩) hH ?_
    simp only [Act.put, List.setIfInBounds_toArray, List.set_cons_zero, List.set_cons_succ]
    refine wpAnyH_take (i := 10) (oi := ⟨some 19, _, _, _, _, _⟩) (v := undef) rfl (by kernel_rfl) (by kernel_rfl) (by kernel_rfl) (fun _ _ _ h => h) (Or.inr ⟨by kernel_rfl, rfl⟩) hH ?_
    simp only [Act.put, List.setIfInBounds_toArray, List.set_cons_zero, List.set_cons_succ]
    refine wpAnyH_take (i := 11) (oi := ⟨some 20, _, _, _, _, _⟩) (v := undef) rfl (by kernel_rfl) (by kernel_rfl) (by kernel_rfl) (fun _ _ _ h => h) (Or.inr ⟨by kernel_rfl, rfl⟩) hH ?_
    simp only [Act.put, List.setIfInBounds_toArray, List.set_cons_zero, List.set_cons_succ]
    refine wpAnyH_take (i := 12) (oi := ⟨some 21, _, _, _, _, _⟩) (v := undef) rfl (by kernel_rfl) (by kernel_rfl) (by kernel_rfl) (fun _ _ _ h => h) (Or.inr ⟨by kernel_rfl, rfl⟩) hH ?_
    simp only [Act.put, List.setIfInBounds_toArray, List.set_cons_zero, List.set_cons_succ]
    refine wpAnyH_take (i := 13) (oi := ⟨some 22, _, _, _, _, _⟩) (v := undef) rfl (by kernel_rfl) (by kernel_rfl) (by kernel_rfl) (fun _ _ _ h => h) (Or.inr ⟨by kernel_rfl, rfl⟩) hH ?_
    simp only [Act.put, List.setIfInBounds_toArray, List.set_cons_zero, List.set_cons_succ]
    refine wpAnyH_take (i := 14) (oi := ⟨some 23, _, _, _, _, _⟩) (v := undef) rfl (by kernel_rfl) (by kernel_rfl) (by kernel_rfl) (fun _ _ _ h => h) (Or.inr ⟨by kernel_rfl, rfl⟩) hH ?_
    simp only [Act.put, List.setIfInBounds_toArray, List.set_cons_zero, List.set_cons_succ]
    refine wpAnyH_take (i := 15) (oi := ⟨some 24, _, _, _, _, _⟩) (v := undef) rfl (by kernel_rfl) (by kernel_rfl) (by kernel_rfl) (fun _ _ _ h => h) (Or.inr ⟨by kernel_rfl, rfl⟩) hH ?_
    simp only [Act.put, List.setIfInBounds_toArray, List.set_cons_zero, List.set_cons_succ]
    refine wpAnyH_take (i := 16) (oi := ⟨some 25, _, _, _, _, _⟩) (v := undef) rfl (by kernel_rfl) (by kernel_rfl) (by kernel_rfl) (fun _ _ _ h => h) (Or.inr ⟨by kernel_rfl, rfl⟩) hH ?_
    simp only [Act.put, List.setIfInBounds_toArray, List.set_cons_zero, List.set_cons_succ]
    refine wpAnyH_take (i := 17) (oi := ⟨some 26, _, _, _, _, _⟩) (v := undef) rfl (by kernel_rfl) (by kernel_rfl) (by kernel_rfl) (fun _ _ _ h => h) (Or.inr ⟨by kernel_rfl, rfl⟩) hH ?_
    simp only [Act.put, List.setIfInBounds_toArray, List.set_cons_zero, List.set_cons_succ]
    refine wpAnyH_take (i := 18) (oi := ⟨some 27, _, _, _, _, _⟩) (v := undef) rfl (by kernel_rfl) (by kernel_rfl) (by kernel_rfl) (fun _ _ _ h => h) (Or.inr ⟨by kernel_rfl, rfl⟩) hH ?_
    simp only [Act.put, List.setIfInBounds_toArray, List.set_cons_zero, List.set_cons_succ]
    refine wpAnyH_take (i := 19) (oi := ⟨some 28, _, _, _, _, _⟩) (v := undef) rfl (by kernel_rfl) (by kernel_rfl) (by kernel_rfl) (fun _ _ _ h => h) (Or.inr ⟨by kernel_rfl, rfl⟩) hH ?_
    simp only [Act.put, List.setIfInBounds_toArray, List.set_cons_zero, List.set_cons_succ]
    refine wpAnyH_take (i := 20) (oi := ⟨some 29, _, _, _, _, _⟩) (v := undef) rfl (by kernel_rfl) (by kernel_rfl) (by kernel_rfl) (fun _ _ _ h => h) (Or.inr ⟨by kernel_rfl, rfl⟩) hH ?_
    simp only [Act.put, List.setIfInBounds_toArray, List.set_cons_zero, List.set_cons_succ]
    refine wpAnyH_take (i := 21) (oi := ⟨some 30, _, _, _, _, _⟩) (v := undef) rfl (by kernel_rfl) (by kernel_rfl) (by kernel_rfl) (fun _ _ _ h => h) (Or.inr ⟨by kernel_rfl, rfl⟩) hH ?_
    simp only [Act.put, List.setIfInBounds_toArray, List.set_cons_zero, List.set_cons_succ]
    refine wpAnyH_take (i := 22) (oi := ⟨some 31, _, _, _, _, _⟩) (v := undef) rfl (by kernel_rfl) (by kernel_rfl) (by kernel_rfl) (fun _ _ _ h => h) (Or.inr ⟨by kernel_rfl, rfl⟩) hH ?_
    simp only [Act.put, List.setIfInBounds_toArray, List.set_cons_zero, List.set_cons_succ]
    refine wpAnyH_take (i := 23) (oi := ⟨some 32, _, _, _, _, _⟩) (v := ?_) rfl (by kernel_rfl) (by kernel_rfl) (by kernel_rfl) (fun _ _ _ h => h) (Or.inl ⟨by kernel_rfl, ?_⟩) hH ?_
    rotate_left 1
    · intro wq hq; have hq1 := hq.1; first | (go_simp; done) | (go_simp; with_reducible rfl)
    simp only [Act.put, List.setIfInBounds_toArray, List.set_cons_zero, List.set_cons_succ]
    refine wpAnyH_take (i := 24) (oi := ⟨some 33, _, _, _, _, _⟩) (v := ?_) rfl (by kernel_rfl) (by kernel_rfl) (by kernel_rfl) (fun _ _ _ h => h) (Or.inl ⟨by kernel_rfl, ?_⟩) hH ?_
    rotate_left 1
    · intro wq hq; have hq1 := hq.1; first | (go_simp; done) | (go_simp; with_reducible rfl)
    simp only [Act.put, List.setIfInBounds_toArray, List.set_cons_zero, List.set_cons_succ]
    refine wpAnyH_take (i := 25) (oi := ⟨some 34, _, _, _, _, _⟩) (v := undef) rfl (by kernel_rfl) (by kernel_rfl) (by kernel_rfl) (fun _ _ _ h => h) (Or.inr ⟨by kernel_rfl, rfl⟩) hH ?_
    simp only [Act.put, List.setIfInBounds_toArray, List.set_cons_zero, List.set_cons_succ]
    refine wpAnyH_take (i := 26) (oi := ⟨some 35, _, _, _, _, _⟩) (v := undef) rfl (by kernel_rfl) (by kernel_rfl) (by kernel_rfl) (fun _ _ _ h => h) (Or.inr ⟨by kernel_rfl, rfl⟩) hH ?_
    simp only [Act.put, List.setIfInBounds_toArray, List.set_cons_zero, List.set_cons_succ]
    refine wpAnyH_take (i := 27) (oi := ⟨some 36, _, _, _, _, _⟩) (v := undef) rfl (by kernel_rfl) (by kernel_rfl) (by kernel_rfl) (fun _ _ _ h => h) (Or.inr ⟨by kernel_rfl, rfl⟩) hH ?_
    simp only [Act.put, List.setIfInBounds_toArray, List.set_cons_zero, List.set_cons_succ]
    refine wpAnyH_take (i := 28) (oi := ⟨some 37, _, _, _, _, _⟩) (v := undef) rfl (by kernel_rfl) (by kernel_rfl) (by kernel_rfl) (fun _ _ _ h => h) (Or.inr ⟨by kernel_rfl, rfl⟩) hH ?_
    simp only [Act.put, List.setIfInBounds_toArray, List.set_cons_zero, List.set_cons_succ]
    refine wpAnyH_take (i := 29) (oi := ⟨some 38, _, _, _, _, _⟩) (v := undef) rfl (by kernel_rfl) (by kernel_rfl) (by kernel_rfl) (fun _ _ _ h => h) (Or.inr ⟨by kernel_rfl, rfl⟩) hH ?_
    simp only [Act.put, List.setIfInBounds_toArray, List.set_cons_zero, List.set_cons_succ]
    refine wpAnyH_take (i := 30) (oi := ⟨some 39, _, _, _, _, _⟩) (v := undef) rfl (by kernel_rfl) (by kernel_rfl) (by kernel_rfl) (fun _ _ _ h => h) (Or.inr ⟨by kernel_rfl, rfl⟩) hH ?_
    simp only [Act.put, List.setIfInBounds_toArray, List.set_cons_zero, List.set_cons_succ]
    refine wpAnyH_take (i := 31) (oi := ⟨some 40, _, _, _, _, _⟩) (v := undef) rfl (by kernel_rfl) (by kernel_rfl) (by kernel_rfl) (fun _ _ _ h => h) (Or.inr ⟨by kernel_rfl, rfl⟩) hH ?_
    simp only [Act.put, List.setIfInBounds_toArray, List.set_cons_zero, List.set_cons_succ]
    refine wpAnyH_take (i := 32) (oi := ⟨some 41, _, _, _, _, _⟩) (v := ?_) rfl (by kernel_rfl) (by kernel_rfl) (by kernel_rfl) (fun _ _ _ h => h) (Or.inl ⟨by kernel_rfl, ?_⟩) hH ?_
    rotate_left 1
    · intro wq hq; have hq1 := hq.1; first | (go_simp; done) | (go_simp; with_reducible rfl)
    simp only [Act.put, List.setIfInBounds_toArray, List.set_cons_zero, List.set_cons_succ]
    refine wpAnyH_take (i := 33) (oi := ⟨some 6, _, _, _, _, _⟩) (v := ?_) rfl (by kernel_rfl) (by kernel_rfl) (by kernel_rfl) (fun _ _ _ h => h) (Or.inl ⟨by kernel_rfl, ?_⟩) hH ?_
    rotate_left 1
    · intro wq hq; have hq1 := hq.1; first | (go_simp; done) | (go_simp; with_reducible rfl)
    simp only [Act.put, List.setIfInBounds_toArray, List.set_cons_zero, List.set_cons_succ]
    refine wpAnyH_done (by kernel_rfl) ?_ _
    go_wp2_with fail
    go_ret
    exact ⟨ret_bool HA.out.symm, hH.2⟩
  | true =>
    obtain ⟨ho, hx0, hx1⟩ := HX.out hr
    rw [hr] at HC
    rw [ho] at HO
    clear ho HX
    have hw1 : IntKind.u64.wrap (n : Int) = n := by rw [IntKind.wrap_u64]; omega
    have hw2 : IntKind.u64.wrap ((n : Int) * 4096) = n * 4096 := by rw [IntKind.wrap_u64]; omega
    have hw3 : IntKind.u64.wrap k = k := by rw [IntKind.wrap_u64]; omega
    have hw5 : IntKind.i64.wrap ((n : Int) * 4096) = n * 4096 := by rw [IntKind.wrap_i64]; omega
    by_cases hkn : k ≤ n * 4096
    · by_cases hoff : x - 2147483648 ≤ n * 4096 - k
      · have HA : Hid (ramAll n x k = true) := by show _ = _; unfold ramAll; rw [hr]; simp; right; omega
        clear hr
        have hw4 : IntKind.u64.wrap ((n : Int) * 4096 - k) = n * 4096 - k := by rw [IntKind.wrap_u64]; omega
        have hd1 : decide (x - 2147483648 ≤ (n : Int) * 4096 - k) = true := by simpa using hoff
        have hd2 : decide (k ≤ (n : Int) * 4096) = true := by simpa using hkn
        clear hoff hkn
        go_enter Tryz.func136, Tryz.ntmps136
        go_wp2_with fail
        refine wp_region_held_drew (S := fun w' => w'.cell? ⟨b, 0, none⟩ = some (.int .i64 n) ∧ Below w.heap.size w w') (by kernel_rfl) ⟨c0, (Below.refl _ _).drew⟩ (fun hH => ?_)
        refine wpAnyH_take (i := 0) (oi := ⟨some 9, _, _, _, _, _⟩) (v := ?_) rfl (by kernel_rfl) (by kernel_rfl) (by kernel_rfl) (fun _ _ _ h => h) (Or.inl ⟨by kernel_rfl, ?_⟩) hH ?_
        rotate_left 1
        · intro wq hq; have hq1 := hq.1; first | (go_simp; done) | (go_simp; with_reducible rfl)
        simp only [Act.put, List.setIfInBounds_toArray, List.set_cons_zero, List.set_cons_succ]
        refine wpAnyH_take (i := 1) (oi := ⟨some 10, _, _, _, _, _⟩) (v := ?_) rfl (by kernel_rfl) (by kernel_rfl) (by kernel_rfl) (fun _ _ _ h => h) (Or.inl ⟨by kernel_rfl, ?_⟩) hH ?_
        rotate_left 1
        · intro wq hq; have hq1 := hq.1; first | (go_simp; done) | (go_simp; with_reducible rfl)
        simp only [Act.put, List.setIfInBounds_toArray, List.set_cons_zero, List.set_cons_succ]
        refine wpAnyH_take (i := 2) (oi := ⟨some 11, _, _, _, _, _⟩) (v := ?_) rfl (by kernel_rfl) (by kernel_rfl) (by kernel_rfl) (fun _ _ _ h => h) (Or.inl ⟨by kernel_rfl, ?_⟩) hH ?_
        rotate_left 1
        · intro wq hq; have hq1 := hq.1; first | (go_simp; done) | (go_simp; with_reducible rfl)
        simp only [Act.put, List.setIfInBounds_toArray, List.set_cons_zero, List.set_cons_succ]
        refine wpAnyH_take (i := 3) (oi := ⟨some 12, _, _, _, _, _⟩) (v := ?_) rfl (by kernel_rfl) (by kernel_rfl) (by kernel_rfl) (fun _ _ _ h => h) (Or.inl ⟨by kernel_rfl, ?_⟩) hH ?_
        rotate_left 1
        · intro wq hq; have hq1 := hq.1; first | (go_simp; done) | (go_simp; with_reducible rfl)
        simp only [Act.put, List.setIfInBounds_toArray, List.set_cons_zero, List.set_cons_succ]
        refine wpAnyH_take (i := 4) (oi := ⟨some 13, _, _, _, _, _⟩) (v := ?_) rfl (by kernel_rfl) (by kernel_rfl) (by kernel_rfl) (fun _ _ _ h => h) (Or.inl ⟨by kernel_rfl, ?_⟩) hH ?_
        rotate_left 1
        · intro wq hq; have hq1 := hq.1; first | (go_simp; done) | (go_simp; with_reducible rfl)
        simp only [Act.put, List.setIfInBounds_toArray, List.set_cons_zero, List.set_cons_succ]
        refine wpAnyH_ready (rs := [5]) (by kernel_rfl) (by simp) (AllReadyH.cons (o := ⟨some 14, _, _, _, _, _⟩) rfl (fun K hK => ?_) AllReadyH.nil)
        go_simp
        refine (HC.out _).mono ?_
        rintro e w1 ⟨rfl, hb1⟩
        go_wp2_with fail
        refine hK.out _ _ ?_ (fun hH => ?_)
        · have hs := hH.2.size; exact ⟨(hb1.cell (p := ⟨b, 0, none⟩) (by first | omega | (simp; omega))).trans hH.1, below_then hH.2 hb1 hH.2.size⟩
        clear hK K
        try simp only [Act.put, List.setIfInBounds_toArray, List.set_cons_zero, List.set_cons_succ]
        refine wpAnyH_take (i := 6) (oi := ⟨some 15, _, _, _, _, _⟩) (v := ?_) rfl (by kernel_rfl) (by kernel_rfl) (by kernel_rfl) (fun _ _ _ h => h) (Or.inl ⟨by kernel_rfl, ?_⟩) hH ?_
        rotate_left 1
        · intro wq hq; have hq1 := hq.1; first | (go_simp; done) | (go_simp; with_reducible rfl)
        simp only [Act.put, List.setIfInBounds_toArray, List.set_cons_zero, List.set_cons_succ]
        refine wpAnyH_take (i := 7) (oi := ⟨some 16, _, _, _, _, _⟩) (v := ?_) rfl (by kernel_rfl) (by kernel_rfl) (by kernel_rfl) (fun _ _ _ h => h) (Or.inl ⟨by kernel_rfl, ?_⟩) hH ?_
        rotate_left 1
        · intro wq hq; have hq1 := hq.1; first | (go_simp; done) | (go_simp; with_reducible rfl)
        simp only [Act.put, List.setIfInBounds_toArray, List.set_cons_zero, List.set_cons_succ]
        refine wpAnyH_take (i := 8) (oi := ⟨some 17, _, _, _, _, _⟩) (v := ?_) rfl (by kernel_rfl) (by kernel_rfl) (by kernel_rfl) (fun _ _ _ h => h) (Or.inl ⟨by kernel_rfl, ?_⟩) hH ?_
        rotate_left 1
        · intro wq hq; have hq1 := hq.1; first | (go_simp; done) | (go_simp; with_reducible rfl)
        simp only [Act.put, List.setIfInBounds_toArray, List.set_cons_zero, List.set_cons_succ]
        refine wpAnyH_take (i := 9) (oi := ⟨some 18, _, _, _, _, _⟩) (v := ?_) rfl (by kernel_rfl) (by kernel_rfl) (by kernel_rfl) (fun _ _ _ h => h) (Or.inl ⟨by kernel_rfl, ?_⟩) hH ?_
        rotate_left 1
        · intro wq hq; have hq1 := hq.1; first | (go_simp; done) | (go_simp; with_reducible rfl)
        simp only [Act.put, List.setIfInBounds_toArray, List.set_cons_zero, List.set_cons_succ]
        refine wpAnyH_take (i := 10) (oi := ⟨some 19, _, _, _, _, _⟩) (v := ?_) rfl (by kernel_rfl) (by kernel_rfl) (by kernel_rfl) (fun _ _ _ h => h) (Or.inl ⟨by kernel_rfl, ?_⟩) hH ?_
        rotate_left 1
        · intro wq hq; have hq1 := hq.1; first | (go_simp; done) | (go_simp; with_reducible rfl)
        simp only [Act.put, List.setIfInBounds_toArray, List.set_cons_zero, List.set_cons_succ]
        refine wpAnyH_take (i := 11) (oi := ⟨some 20, _, _, _, _, _⟩) (v := ?_) rfl (by kernel_rfl) (by kernel_rfl) (by kernel_rfl) (fun _ _ _ h => h) (Or.inl ⟨by kernel_rfl, ?_⟩) hH ?_
        rotate_left 1
        · intro wq hq; have hq1 := hq.1; first | (go_simp; done) | (go_simp; with_reducible rfl)
        simp only [Act.put, List.setIfInBounds_toArray, List.set_cons_zero, List.set_cons_succ]
        refine wpAnyH_take (i := 13) (oi := ⟨some 22, _, _, _, _, _⟩) (v := ?_) rfl (by kernel_rfl) (by kernel_rfl) (by kernel_rfl) (fun _ _ _ h => h) (Or.inl ⟨by kernel_rfl, ?_⟩) hH ?_
        rotate_left 1
        · intro wq hq; have hq1 := hq.1; first | (go_simp; done) | (go_simp; with_reducible rfl)
        simp only [Act.put, List.setIfInBounds_toArray, List.set_cons_zero, List.set_cons_succ]
        refine wpAnyH_take (i := 14) (oi := ⟨some 23, _, _, _, _, _⟩) (v := ?_) rfl (by kernel_rfl) (by kernel_rfl) (by kernel_rfl) (fun _ _ _ h => h) (Or.inl ⟨by kernel_rfl, ?_⟩) hH ?_
        rotate_left 1
        · intro wq hq; have hq1 := hq.1; first | (go_simp; done) | (go_simp; with_reducible rfl)
        simp only [Act.put, List.setIfInBounds_toArray, List.set_cons_zero, List.set_cons_succ]
        refine wpAnyH_take (i := 15) (oi := ⟨some 24, _, _, _, _, _⟩) (v := ?_) rfl (by kernel_rfl) (by kernel_rfl) (by kernel_rfl) (fun _ _ _ h => h) (Or.inl ⟨by kernel_rfl, ?_⟩) hH ?_
        rotate_left 1
        · intro wq hq; have hq1 := hq.1; first | (go_simp; done) | (go_simp; with_reducible rfl)
        simp only [Act.put, List.setIfInBounds_toArray, List.set_cons_zero, List.set_cons_succ]
        refine wpAnyH_take (i := 16) (oi := ⟨some 25, _, _, _, _, _⟩) (v := ?_) rfl (by kernel_rfl) (by kernel_rfl) (by kernel_rfl) (fun _ _ _ h => h) (Or.inl ⟨by kernel_rfl, ?_⟩) hH ?_
        rotate_left 1
        · intro wq hq; have hq1 := hq.1; first | (go_simp; done) | (go_simp; with_reducible rfl)
        simp only [Act.put, List.setIfInBounds_toArray, List.set_cons_zero, List.set_cons_succ]
        refine wpAnyH_take (i := 17) (oi := ⟨some 26, _, _, _, _, _⟩) (v := ?_) rfl (by kernel_rfl) (by kernel_rfl) (by kernel_rfl) (fun _ _ _ h => h) (Or.inl ⟨by kernel_rfl, ?_⟩) hH ?_
        rotate_left 1
        · intro wq hq; have hq1 := hq.1; first | (go_simp; done) | (go_simp; with_reducible rfl)
        simp only [Act.put, List.setIfInBounds_toArray, List.set_cons_zero, List.set_cons_succ]
        refine wpAnyH_take (i := 18) (oi := ⟨some 27, _, _, _, _, _⟩) (v := ?_) rfl (by kernel_rfl) (by kernel_rfl) (by kernel_rfl) (fun _ _ _ h => h) (Or.inl ⟨by kernel_rfl, ?_⟩) hH ?_
        rotate_left 1
        · intro wq hq; have hq1 := hq.1; first | (go_simp; done) | (go_simp; with_reducible rfl)
        simp only [Act.put, List.setIfInBounds_toArray, List.set_cons_zero, List.set_cons_succ]
        refine wpAnyH_take (i := 19) (oi := ⟨some 28, _, _, _, _, _⟩) (v := ?_) rfl (by kernel_rfl) (by kernel_rfl) (by kernel_rfl) (fun _ _ _ h => h) (Or.inl ⟨by kernel_rfl, ?_⟩) hH ?_
        rotate_left 1
        · intro wq hq; have hq1 := hq.1; first | (go_simp; done) | (go_simp; with_reducible rfl)
        simp only [Act.put, List.setIfInBounds_toArray, List.set_cons_zero, List.set_cons_succ]
        refine wpAnyH_take (i := 20) (oi := ⟨some 29, _, _, _, _, _⟩) (v := ?_) rfl (by kernel_rfl) (by kernel_rfl) (by kernel_rfl) (fun _ _ _ h => h) (Or.inl ⟨by kernel_rfl, ?_⟩) hH ?_
        rotate_left 1
        · intro wq hq; have hq1 := hq.1; first | (go_simp; done) | (go_simp; with_reducible rfl)
        simp only [Act.put, List.setIfInBounds_toArray, List.set_cons_zero, List.set_cons_succ]
        refine wpAnyH_take (i := 21) (oi := ⟨some 30, _, _, _, _, _⟩) (v := ?_) rfl (by kernel_rfl) (by kernel_rfl) (by kernel_rfl) (fun _ _ _ h => h) (Or.inl ⟨by kernel_rfl, ?_⟩) hH ?_
        rotate_left 1
        · intro wq hq; have hq1 := hq.1; first | (go_simp; done) | (go_simp; with_reducible rfl)
        simp only [Act.put, List.setIfInBounds_toArray, List.set_cons_zero, List.set_cons_succ]
        refine wpAnyH_ready (rs := [12]) (by kernel_rfl) (by simp) (AllReadyH.cons (o := ⟨some 21, _, _, _, _, _⟩) rfl (fun K hK => ?_) AllReadyH.nil)
        go_simp
        refine (HO.out _).mono ?_
        rintro e w2 ⟨rfl, hb2⟩
        go_wp2_with fail
        refine hK.out _ _ ?_ (fun hH => ?_)
        · have hs := hH.2.size; exact ⟨(hb2.cell (p := ⟨b, 0, none⟩) (by first | omega | (simp; omega))).trans hH.1, below_then hH.2 hb2 hH.2.size⟩
        clear hK K
        try simp only [Act.put, List.setIfInBounds_toArray, List.set_cons_zero, List.set_cons_succ]
        refine wpAnyH_take (i := 22) (oi := ⟨some 31, _, _, _, _, _⟩) (v := ?_) rfl (by kernel_rfl) (by kernel_rfl) (by kernel_rfl) (fun _ _ _ h => h) (Or.inl ⟨by kernel_rfl, ?_⟩) hH ?_
        rotate_left 1
        · intro wq hq; have hq1 := hq.1; first | (go_simp; done) | (go_simp; with_reducible rfl)
        simp only [Act.put, List.setIfInBounds_toArray, List.set_cons_zero, List.set_cons_succ]
        refine wpAnyH_take (i := 23) (oi := ⟨some 32, _, _, _, _, _⟩) (v := ?_) rfl (by kernel_rfl) (by kernel_rfl) (by kernel_rfl) (fun _ _ _ h => h) (Or.inl ⟨by kernel_rfl, ?_⟩) hH ?_
        rotate_left 1
        · intro wq hq; have hq1 := hq.1; first | (go_simp; done) | (go_simp; with_reducible rfl)
        simp only [Act.put, List.setIfInBounds_toArray, List.set_cons_zero, List.set_cons_succ]
        refine wpAnyH_take (i := 24) (oi := ⟨some 33, _, _, _, _, _⟩) (v := ?_) rfl (by kernel_rfl) (by kernel_rfl) (by kernel_rfl) (fun _ _ _ h => h) (Or.inl ⟨by kernel_rfl, ?_⟩) hH ?_
        rotate_left 1
        · intro wq hq; have hq1 := hq.1; first | (go_simp; done) | (go_simp; with_reducible rfl)
        simp only [Act.put, List.setIfInBounds_toArray, List.set_cons_zero, List.set_cons_succ]
        refine wpAnyH_take (i := 25) (oi := ⟨some 34, _, _, _, _, _⟩) (v := ?_) rfl (by kernel_rfl) (by kernel_rfl) (by kernel_rfl) (fun _ _ _ h => h) (Or.inl ⟨by kernel_rfl, ?_⟩) hH ?_
        rotate_left 1
        · intro wq hq; have hq1 := hq.1; first | (go_simp; done) | (go_simp; with_reducible rfl)
        simp only [Act.put, List.setIfInBounds_toArray, List.set_cons_zero, List.set_cons_succ]
        refine wpAnyH_take (i := 26) (oi := ⟨some 35, _, _, _, _, _⟩) (v := ?_) rfl (by kernel_rfl) (by kernel_rfl) (by kernel_rfl) (fun _ _ _ h => h) (Or.inl ⟨by kernel_rfl, ?_⟩) hH ?_
        rotate_left 1
        · intro wq hq; have hq1 := hq.1; first | (go_simp; done) | (go_simp; with_reducible rfl)
        simp only [Act.put, List.setIfInBounds_toArray, List.set_cons_zero, List.set_cons_succ]
        refine wpAnyH_take (i := 27) (oi := ⟨some 36, _, _, _, _, _⟩) (v := ?_) rfl (by kernel_rfl) (by kernel_rfl) (by kernel_rfl) (fun _ _ _ h => h) (Or.inl ⟨by kernel_rfl, ?_⟩) hH ?_
        rotate_left 1
        · intro wq hq; have hq1 := hq.1; first | (go_simp; done) | (go_simp; with_reducible rfl)
        simp only [Act.put, List.setIfInBounds_toArray, List.set_cons_zero, List.set_cons_succ]
        refine wpAnyH_take (i := 28) (oi := ⟨some 37, _, _, _, _, _⟩) (v := ?_) rfl (by kernel_rfl) (by kernel_rfl) (by kernel_rfl) (fun _ _ _ h => h) (Or.inl ⟨by kernel_rfl, ?_⟩) hH ?_
        rotate_left 1
        · intro wq hq; have hq1 := hq.1; first | (go_simp; done) | (go_simp; with_reducible rfl)
        simp only [Act.put, List.setIfInBounds_toArray, List.set_cons_zero, List.set_cons_succ]
        refine wpAnyH_take (i := 29) (oi := ⟨some 38, _, _, _, _, _⟩) (v := ?_) rfl (by kernel_rfl) (by kernel_rfl) (by kernel_rfl) (fun _ _ _ h => h) (Or.inl ⟨by kernel_rfl, ?_⟩) hH ?_
        rotate_left 1
        · intro wq hq; have hq1 := hq.1; first | (go_simp; done) | (go_simp; with_reducible rfl)
        simp only [Act.put, List.setIfInBounds_toArray, List.set_cons_zero, List.set_cons_succ]
        refine wpAnyH_take (i := 30) (oi := ⟨some 39, _, _, _, _, _⟩) (v := ?_) rfl (by kernel_rfl) (by kernel_rfl) (by kernel_rfl) (fun _ _ _ h => h) (Or.inl ⟨by kernel_rfl, ?_⟩) hH ?_
        rotate_left 1
        · intro wq hq; have hq1 := hq.1; first | (go_simp; done) | (go_simp; with_reducible rfl)
        simp only [Act.put, List.setIfInBounds_toArray, List.set_cons_zero, List.set_cons_succ]
        refine wpAnyH_take (i := 31) (oi := ⟨some 40, _, _, _, _, _⟩) (v := ?_) rfl (by kernel_rfl) (by kernel_rfl) (by kernel_rfl) (fun _ _ _ h => h) (Or.inl ⟨by kernel_rfl, ?_⟩) hH ?_
        rotate_left 1
        · intro wq hq; have hq1 := hq.1; first | (go_simp; done) | (go_simp; with_reducible rfl)
        simp only [Act.put, List.setIfInBounds_toArray, List.set_cons_zero, List.set_cons_succ]
        refine wpAnyH_take (i := 32) (oi := ⟨some 41, _, _, _, _, _⟩) (v := ?_) rfl (by kernel_rfl) (by kernel_rfl) (by kernel_rfl) (fun _ _ _ h => h) (Or.inl ⟨by kernel_rfl, ?_⟩) hH ?_
        rotate_left 1
        · intro wq hq; have hq1 := hq.1; first | (go_simp; done) | (go_simp; with_reducible rfl)
        simp only [Act.put, List.setIfInBounds_toArray, List.set_cons_zero, List.set_cons_succ]
        refine wpAnyH_take (i := 33) (oi := ⟨some 6, _, _, _, _, _⟩) (v := ?_) rfl (by kernel_rfl) (by kernel_rfl) (by kernel_rfl) (fun _ _ _ h => h) (Or.inl ⟨by kernel_rfl, ?_⟩) hH ?_
        rotate_left 1
        · intro wq hq; have hq1 := hq.1; first | (go_simp; done) | (go_simp; with_reducible rfl)
        simp only [Act.put, List.setIfInBounds_toArray, List.set_cons_zero, List.set_cons_succ]
        refine wpAnyH_done (by kernel_rfl) ?_ _
        go_wp2_with fail
        go_ret
        exact ⟨ret_bool HA.out.symm, hH.2⟩
      · have HA : Hid (ramAll n x k = false) := by show _ = _; unfold ramAll; rw [hr]; simp [hk]; omega
        clear hr
        have hw4 : IntKind.u64.wrap ((n : Int) * 4096 - k) = n * 4096 - k := by rw [IntKind.wrap_u64]; omega
        have hd1 : decide (x - 2147483648 ≤ (n : Int) * 4096 - k) = false := by simpa using hoff
        clear hoff hkn
        go_enter Tryz.func136, Tryz.ntmps136
        go_wp2_with fail
        refine wp_region_held_drew (S := fun w' => w'.cell? ⟨b, 0, none⟩ = some (.int .i64 n) ∧ Below w.heap.size w w') (by kernel_rfl) ⟨c0, (Below.refl _ _).drew⟩ (fun hH => ?_)
        refine wpAnyH_take (i := 0) (oi := ⟨some 9, _, _, _, _, _⟩) (v := ?_) rfl (by kernel_rfl) (by kernel_rfl) (by kernel_rfl) (fun _ _ _ h => h) (Or.inl ⟨by kernel_rfl, ?_⟩) hH ?_
        rotate_left 1
        · intro wq hq; have hq1 := hq.1; first | (go_simp; done) | (go_simp; with_reducible rfl)
        simp only [Act.put, List.setIfInBounds_toArray, List.set_cons_zero, List.set_cons_succ]
        refine wpAnyH_take (i := 1) (oi := ⟨some 10, _, _, _, _, _⟩) (v := ?_) rfl (by kernel_rfl) (by kernel_rfl) (by kernel_rfl) (fun _ _ _ h => h) (Or.inl ⟨by kernel_rfl, ?_⟩) hH ?_
        rotate_left 1
        · intro wq hq; have hq1 := hq.1; first | (go_simp; done) | (go_simp; with_reducible rfl)
        simp only [Act.put, List.setIfInBounds_toArray, List.set_cons_zero, List.set_cons_succ]
        refine wpAnyH_take (i := 2) (oi := ⟨some 11, _, _, _, _, _⟩) (v := ?_) rfl (by kernel_rfl) (by kernel_rfl) (by kernel_rfl) (fun _ _ _ h => h) (Or.inl ⟨by kernel_rfl, ?_⟩) hH ?_
        rotate_left 1
        · intro wq hq; have hq1 := hq.1; first | (go_simp; done) | (go_simp; with_reducible rfl)
        simp only [Act.put, List.setIfInBounds_toArray, List.set_cons_zero, List.set_cons_succ]
        refine wpAnyH_take (i := 3) (oi := ⟨some 12, _, _, _, _, _⟩) (v := ?_) rfl (by kernel_rfl) (by kernel_rfl) (by kernel_rfl) (fun _ _ _ h => h) (Or.inl ⟨by kernel_rfl, ?_⟩) hH ?_
        rotate_left 1
        · intro wq hq; have hq1 := hq.1; first | (go_simp; done) | (go_simp; with_reducible rfl)
        simp only [Act.put, List.setIfInBounds_toArray, List.set_cons_zero, List.set_cons_succ]
        refine wpAnyH_take (i := 4) (oi := ⟨some 13, _, _, _, _, _⟩) (v := ?_) rfl (by kernel_rfl) (by kernel_rfl) (by kernel_rfl) (fun _ _ _ h => h) (Or.inl ⟨by kernel_rfl, ?_⟩) hH ?_
        rotate_left 1
        · intro wq hq; have hq1 := hq.1; first | (go_simp; done) | (go_simp; with_reducible rfl)
        simp only [Act.put, List.setIfInBounds_toArray, List.set_cons_zero, List.set_cons_succ]
        refine wpAnyH_ready (rs := [5]) (by kernel_rfl) (by simp) (AllReadyH.cons (o := ⟨some 14, _, _, _, _, _⟩) rfl (fun K hK => ?_) AllReadyH.nil)
        go_simp
        refine (HC.out _).mono ?_
        rintro e w1 ⟨rfl, hb1⟩
        go_wp2_with fail
        refine hK.out _ _ ?_ (fun hH => ?_)
        · have hs := hH.2.size; exact ⟨(hb1.cell (p := ⟨b, 0, none⟩) (by first | omega | (simp; omega))).trans hH.1, below_then hH.2 hb1 hH.2.size⟩
        clear hK K
        try simp only [Act.put, List.setIfInBounds_toArray, List.set_cons_zero, List.set_cons_succ]
        refine wpAnyH_take (i := 6) (oi := ⟨some 15, _, _, _, _, _⟩) (v := ?_) rfl (by kernel_rfl) (by kernel_rfl) (by kernel_rfl) (fun _ _ _ h => h) (Or.inl ⟨by kernel_rfl, ?_⟩) hH ?_
        rotate_left 1
        · intro wq hq; have hq1 := hq.1; first | (go_simp; done) | (go_simp; with_reducible rfl)
        simp only [Act.put, List.setIfInBounds_toArray, List.set_cons_zero, List.set_cons_succ]
        refine wpAnyH_take (i := 7) (oi := ⟨some 16, _, _, _, _, _⟩) (v := ?_) rfl (by kernel_rfl) (by kernel_rfl) (by kernel_rfl) (fun _ _ _ h => h) (Or.inl ⟨by kernel_rfl, ?_⟩) hH ?_
        rotate_left 1
        · intro wq hq; have hq1 := hq.1; first | (go_simp; done) | (go_simp; with_reducible rfl)
        simp only [Act.put, List.setIfInBounds_toArray, List.set_cons_zero, List.set_cons_succ]
        refine wpAnyH_take (i := 8) (oi := ⟨some 17, _, _, _, _, _⟩) (v := ?_) rfl (by kernel_rfl) (by kernel_rfl) (by kernel_rfl) (fun _ _ _ h => h) (Or.inl ⟨by kernel_rfl, ?_⟩) hH ?_
        rotate_left 1
        · intro wq hq; have hq1 := hq.1; first | (go_simp; done) | (go_simp; with_reducible rfl)
        simp only [Act.put, List.setIfInBounds_toArray, List.set_cons_zero, List.set_cons_succ]
        refine wpAnyH_take (i := 9) (oi := ⟨some 18, _, _, _, _, _⟩) (v := ?_) rfl (by kernel_rfl) (by kernel_rfl) (by kernel_rfl) (fun _ _ _ h => h) (Or.inl ⟨by kernel_rfl, ?_⟩) hH ?_
        rotate_left 1
        · intro wq hq; have hq1 := hq.1; first | (go_simp; done) | (go_simp; with_reducible rfl)
        simp only [Act.put, List.setIfInBounds_toArray, List.set_cons_zero, List.set_cons_succ]
        refine wpAnyH_take (i := 10) (oi := ⟨some 19, _, _, _, _, _⟩) (v := ?_) rfl (by kernel_rfl) (by kernel_rfl) (by kernel_rfl) (fun _ _ _ h => h) (Or.inl ⟨by kernel_rfl, ?_⟩) hH ?_
        rotate_left 1
        · intro wq hq; have hq1 := hq.1; first | (go_simp; done) | (go_simp; with_reducible rfl)
        simp only [Act.put, List.setIfInBounds_toArray, List.set_cons_zero, List.set_cons_succ]
        refine wpAnyH_take (i := 11) (oi := ⟨some 20, _, _, _, _, _⟩) (v := ?_) rfl (by kernel_rfl) (by kernel_rfl) (by kernel_rfl) (fun _ _ _ h => h) (Or.inl ⟨by kernel_rfl, ?_⟩) hH ?_
        rotate_left 1
        · intro wq hq; have hq1 := hq.1; first | (go_simp; done) | (go_simp; with_reducible rfl)
        simp only [Act.put, List.setIfInBounds_toArray, List.set_cons_zero, List.set_cons_succ]
        refine wpAnyH_take (i := 13) (oi := ⟨some 22, _, _, _, _, _⟩) (v := ?_) rfl (by kernel_rfl) (by kernel_rfl) (by kernel_rfl) (fun _ _ _ h => h) (Or.inl ⟨by kernel_rfl, ?_⟩) hH ?_
        rotate_left 1
        · intro wq hq; have hq1 := hq.1; first | (go_simp; done) | (go_simp; with_reducible rfl)
        simp only [Act.put, List.setIfInBounds_toArray, List.set_cons_zero, List.set_cons_succ]
        refine wpAnyH_take (i := 14) (oi := ⟨some 23, _, _, _, _, _⟩) (v := ?_) rfl (by kernel_rfl) (by kernel_rfl) (by kernel_rfl) (fun _ _ _ h => h) (Or.inl ⟨by kernel_rfl, ?_⟩) hH ?_
        rotate_left 1
        · intro wq hq; have hq1 := hq.1; first | (go_simp; done) | (go_simp; with_reducible rfl)
        simp only [Act.put, List.setIfInBounds_toArray, List.set_cons_zero, List.set_cons_succ]
        refine wpAnyH_take (i := 15) (oi := ⟨some 24, _, _, _, _, _⟩) (v := ?_) rfl (by kernel_rfl) (by kernel_rfl) (by kernel_rfl) (fun _ _ _ h => h) (Or.inl ⟨by kernel_rfl, ?_⟩) hH ?_
        rotate_left 1
        · intro wq hq; have hq1 := hq.1; first | (go_simp; done) | (go_simp; with_reducible rfl)
        simp only [Act.put, List.setIfInBounds_toArray, List.set_cons_zero, List.set_cons_succ]
        refine wpAnyH_take (i := 16) (oi := ⟨some 25, _, _, _, _, _⟩) (v := ?_) rfl (by kernel_rfl) (by kernel_rfl) (by kernel_rfl) (fun _ _ _ h => h) (Or.inl ⟨by kernel_rfl, ?_⟩) hH ?_
        rotate_left 1
        · intro wq hq; have hq1 := hq.1; first | (go_simp; done) | (go_simp; with_reducible rfl)
        simp only [Act.put, List.setIfInBounds_toArray, List.set_cons_zero, List.set_cons_succ]
        refine wpAnyH_take (i := 17) (oi := ⟨some 26, _, _, _, _, _⟩) (v := ?_) rfl (by kernel_rfl) (by kernel_rfl) (by kernel_rfl) (fun _ _ _ h => h) (Or.inl ⟨by kernel_rfl, ?_⟩) hH ?_
        rotate_left 1
        · intro wq hq; have hq1 := hq.1; first | (go_simp; done) | (go_simp; with_reducible rfl)
        simp only [Act.put, List.setIfInBounds_toArray, List.set_cons_zero, List.set_cons_succ]
        refine wpAnyH_take (i := 18) (oi := ⟨some 27, _, _, _, _, _⟩) (v := ?_) rfl (by kernel_rfl) (by kernel_rfl) (by kernel_rfl) (fun _ _ _ h => h) (Or.inl ⟨by kernel_rfl, ?_⟩) hH ?_
        rotate_left 1
        · intro wq hq; have hq1 := hq.1; first | (go_simp; done) | (go_simp; with_reducible rfl)
        simp only [Act.put, List.setIfInBounds_toArray, List.set_cons_zero, List.set_cons_succ]
        refine wpAnyH_take (i := 19) (oi := ⟨some 28, _, _, _, _, _⟩) (v := ?_) rfl (by kernel_rfl) (by kernel_rfl) (by kernel_rfl) (fun _ _ _ h => h) (Or.inl ⟨by kernel_rfl, ?_⟩) hH ?_
        rotate_left 1
        · intro wq hq; have hq1 := hq.1; first | (go_simp; done) | (go_simp; with_reducible rfl)
        simp only [Act.put, List.setIfInBounds_toArray, List.set_cons_zero, List.set_cons_succ]
        refine wpAnyH_take (i := 20) (oi := ⟨some 29, _, _, _, _, _⟩) (v := ?_) rfl (by kernel_rfl) (by kernel_rfl) (by kernel_rfl) (fun _ _ _ h => h) (Or.inl ⟨by kernel_rfl, ?_⟩) hH ?_
        rotate_left 1
        · intro wq hq; have hq1 := hq.1; first | (go_simp; done) | (go_simp; with_reducible rfl)
        simp only [Act.put, List.setIfInBounds_toArray, List.set_cons_zero, List.set_cons_succ]
        refine wpAnyH_take (i := 21) (oi := ⟨some 30, _, _, _, _, _⟩) (v := ?_) rfl (by kernel_rfl) (by kernel_rfl) (by kernel_rfl) (fun _ _ _ h => h) (Or.inl ⟨by kernel_rfl, ?_⟩) hH ?_
        rotate_left 1
        · intro wq hq; have hq1 := hq.1; first | (go_simp; done) | (go_simp; with_reducible rfl)
        simp only [Act.put, List.setIfInBounds_toArray, List.set_cons_zero, List.set_cons_succ]
        refine wpAnyH_ready (rs := [12]) (by kernel_rfl) (by simp) (AllReadyH.cons (o := ⟨some 21, _, _, _, _, _⟩) rfl (fun K hK => ?_) AllReadyH.nil)
        go_simp
        refine (HO.out _).mono ?_
        rintro e w2 ⟨rfl, hb2⟩
        go_wp2_with fail
        refine hK.out _ _ ?_ (fun hH => ?_)
        · have hs := hH.2.size; exact ⟨(hb2.cell (p := ⟨b, 0, none⟩) (by first | omega | (simp; omega))).trans hH.1, below_then hH.2 hb2 hH.2.size⟩
        clear hK K
        try simp only [Act.put, List.setIfInBounds_toArray, List.set_cons_zero, List.set_cons_succ]
        refine wpAnyH_take (i := 22) (oi := ⟨some 31, _, _, _, _, _⟩) (v := ?_) rfl (by kernel_rfl) (by kernel_rfl) (by kernel_rfl) (fun _ _ _ h => h) (Or.inl ⟨by kernel_rfl, ?_⟩) hH ?_
        rotate_left 1
        · intro wq hq; have hq1 := hq.1; first | (go_simp; done) | (go_simp; with_reducible rfl)
        simp only [Act.put, List.setIfInBounds_toArray, List.set_cons_zero, List.set_cons_succ]
        refine wpAnyH_take (i := 23) (oi := ⟨some 32, _, _, _, _, _⟩) (v := ?_) rfl (by kernel_rfl) (by kernel_rfl) (by kernel_rfl) (fun _ _ _ h => h) (Or.inl ⟨by kernel_rfl, ?_⟩) hH ?_
        rotate_left 1
        · intro wq hq; have hq1 := hq.1; first | (go_simp; done) | (go_simp; with_reducible rfl)
        simp only [Act.put, List.setIfInBounds_toArray, List.set_cons_zero, List.set_cons_succ]
        refine wpAnyH_take (i := 24) (oi := ⟨some 33, _, _, _, _, _⟩) (v := ?_) rfl (by kernel_rfl) (by kernel_rfl) (by kernel_rfl) (fun _ _ _ h => h) (Or.inl ⟨by kernel_rfl, ?_⟩) hH ?_
        rotate_left 1
        · intro wq hq; have hq1 := hq.1; first | (go_simp; done) | (go_simp; with_reducible rfl)
        simp only [Act.put, List.setIfInBounds_toArray, List.set_cons_zero, List.set_cons_succ]
        refine wpAnyH_take (i := 25) (oi := ⟨some 34, _, _, _, _, _⟩) (v := undef) rfl (by kernel_rfl) (by kernel_rfl) (by kernel_rfl) (fun _ _ _ h => h) (Or.inr ⟨by kernel_rfl, rfl⟩) hH ?_
        simp only [Act.put, List.setIfInBounds_toArray, List.set_cons_zero, List.set_cons_succ]
        refine wpAnyH_take (i := 26) (oi := ⟨some 35, _, _, _, _, _⟩) (v := undef) rfl (by kernel_rfl) (by kernel_rfl) (by kernel_rfl) (fun _ _ _ h => h) (Or.inr ⟨by kernel_rfl, rfl⟩) hH ?_
        simp only [Act.put, List.setIfInBounds_toArray, List.set_cons_zero, List.set_cons_succ]
        refine wpAnyH_take (i := 27) (oi := ⟨some 36, _, _, _, _, _⟩) (v := undef) rfl (by kernel_rfl) (by kernel_rfl) (by kernel_rfl) (fun _ _ _ h => h) (Or.inr ⟨by kernel_rfl, rfl⟩) hH ?_
        simp only [Act.put, List.setIfInBounds_toArray, List.set_cons_zero, List.set_cons_succ]
        refine wpAnyH_take (i := 28) (oi := ⟨some 37, _, _, _, _, _⟩) (v := undef) rfl (by kernel_rfl) (by kernel_rfl) (by kernel_rfl) (fun _ _ _ h => h) (Or.inr ⟨by kernel_rfl, rfl⟩) hH ?_
        simp only [Act.put, List.setIfInBounds_toArray, List.set_cons_zero, List.set_cons_succ]
        refine wpAnyH_take (i := 29) (oi := ⟨some 38, _, _, _, _, _⟩) (v := undef) rfl (by kernel_rfl) (by kernel_rfl) (by kernel_rfl) (fun _ _ _ h => h) (Or.inr ⟨by kernel_rfl, rfl⟩) hH ?_
        simp only [Act.put, List.setIfInBounds_toArray, List.set_cons_zero, List.set_cons_succ]
        refine wpAnyH_take (i := 30) (oi := ⟨some 39, _, _, _, _, _⟩) (v := undef) rfl (by kernel_rfl) (by kernel_rfl) (by kernel_rfl) (fun _ _ _ h => h) (Or.inr ⟨by kernel_rfl, rfl⟩) hH ?_
        simp only [Act.put, List.setIfInBounds_toArray, List.set_cons_zero, List.set_cons_succ]
        refine wpAnyH_take (i := 31) (oi := ⟨some 40, _, _, _, _, _⟩) (v := undef) rfl (by kernel_rfl) (by kernel_rfl) (by kernel_rfl) (fun _ _ _ h => h) (Or.inr ⟨by kernel_rfl, rfl⟩) hH ?_
        simp only [Act.put, List.setIfInBounds_toArray, List.set_cons_zero, List.set_cons_succ]
        refine wpAnyH_take (i := 32) (oi := ⟨some 41, _, _, _, _, _⟩) (v := ?_) rfl (by kernel_rfl) (by kernel_rfl) (by kernel_rfl) (fun _ _ _ h => h) (Or.inl ⟨by kernel_rfl, ?_⟩) hH ?_
        rotate_left 1
        · intro wq hq; have hq1 := hq.1; first | (go_simp; done) | (go_simp; with_reducible rfl)
        simp only [Act.put, List.setIfInBounds_toArray, List.set_cons_zero, List.set_cons_succ]
        refine wpAnyH_take (i := 33) (oi := ⟨some 6, _, _, _, _, _⟩) (v := ?_) rfl (by kernel_rfl) (by kernel_rfl) (by kernel_rfl) (fun _ _ _ h => h) (Or.inl ⟨by kernel_rfl, ?_⟩) hH ?_
        rotate_left 1
        · intro wq hq; have hq1 := hq.1; first | (go_simp; done) | (go_simp; with_reducible rfl)
        simp only [Act.put, List.setIfInBounds_toArray, List.set_cons_zero, List.set_cons_succ]
        refine wpAnyH_done (by kernel_rfl) ?_ _
        go_wp2_with fail
        go_ret
        exact ⟨ret_bool HA.out.symm, hH.2⟩
    · have HA : Hid (ramAll n x k = false) := by show _ = _; unfold ramAll; rw [hr]; simp [hk]; omega
      clear hr
      have hwr : IntKind.u64.wrap ((n : Int) * 4096 - k) = n * 4096 - k + 18446744073709551616 := by rw [IntKind.wrap_u64]; omega
      have hd1 : decide (x - 2147483648 ≤ (n : Int) * 4096 - k + 18446744073709551616) = true := by simp; omega
      have hd2 : decide (k ≤ (n : Int) * 4096) = false := by simpa using hkn
      clear hkn
      go_enter Tryz.func136, Tryz.ntmps136
      go_wp2_with fail
      refine wp_region_held_drew (S := fun w' => w'.cell? ⟨b, 0, none⟩ = some (.int .i64 n) ∧ Below w.heap.size w w') (by kernel_rfl) ⟨c0, (Below.refl _ _).drew⟩ (fun hH => ?_)
      refine wpAnyH_take (i := 0) (oi := ⟨some 9, _, _, _, _, _⟩) (v := ?_) rfl (by kernel_rfl) (by kernel_rfl) (by kernel_rfl) (fun _ _ _ h => h) (Or.inl ⟨by kernel_rfl, ?_⟩) hH ?_
      rotate_left 1
      · intro wq hq; have hq1 := hq.1; first | (go_simp; done) | (go_simp; with_reducible rfl)
      simp only [Act.put, List.setIfInBounds_toArray, List.set_cons_zero, List.set_cons_succ]
      refine wpAnyH_take (i := 1) (oi := ⟨some 10, _, _, _, _, _⟩) (v := ?_) rfl (by kernel_rfl) (by kernel_rfl) (by kernel_rfl) (fun _ _ _ h => h) (Or.inl ⟨by kernel_rfl, ?_⟩) hH ?_
      rotate_left 1
      · intro wq hq; have hq1 := hq.1; first | (go_simp; done) | (go_simp; with_reducible rfl)
      simp only [Act.put, List.setIfInBounds_toArray, List.set_cons_zero, List.set_cons_succ]
      refine wpAnyH_take (i := 2) (oi := ⟨some 11, _, _, _, _, _⟩) (v := ?_) rfl (by kernel_rfl) (by kernel_rfl) (by kernel_rfl) (fun _ _ _ h => h) (Or.inl ⟨by kernel_rfl, ?_⟩) hH ?_
      rotate_left 1
      · intro wq hq; have hq1 := hq.1; first | (go_simp; done) | (go_simp; with_reducible rfl)
      simp only [Act.put, List.setIfInBounds_toArray, List.set_cons_zero, List.set_cons_succ]
      refine wpAnyH_take (i := 3) (oi := ⟨some 12, _, _, _, _, _⟩) (v := ?_) rfl (by kernel_rfl) (by kernel_rfl) (by kernel_rfl) (fun _ _ _ h => h) (Or.inl ⟨by kernel_rfl, ?_⟩) hH ?_
      rotate_left 1
      · intro wq hq; have hq1 := hq.1; first | (go_simp; done) | (go_simp; with_reducible rfl)
      simp only [Act.put, List.setIfInBounds_toArray, List.set_cons_zero, List.set_cons_succ]
      refine wpAnyH_take (i := 4) (oi := ⟨some 13, _, _, _, _, _⟩) (v := ?_) rfl (by kernel_rfl) (by kernel_rfl) (by kernel_rfl) (fun _ _ _ h => h) (Or.inl ⟨by kernel_rfl, ?_⟩) hH ?_
      rotate_left 1
      · intro wq hq; have hq1 := hq.1; first | (go_simp; done) | (go_simp; with_reducible rfl)
      simp only [Act.put, List.setIfInBounds_toArray, List.set_cons_zero, List.set_cons_succ]
      refine wpAnyH_ready (rs := [5]) (by kernel_rfl) (by simp) (AllReadyH.cons (o := ⟨some 14, _, _, _, _, _⟩) rfl (fun K hK => ?_) AllReadyH.nil)
      go_simp
      refine (HC.out _).mono ?_
      rintro e w1 ⟨rfl, hb1⟩
      go_wp2_with fail
      refine hK.out _ _ ?_ (fun hH => ?_)
      · have hs := hH.2.size; exact ⟨(hb1.cell (p := ⟨b, 0, none⟩) (by first | omega | (simp; omega))).trans hH.1, below_then hH.2 hb1 hH.2.size⟩
      clear hK K
      try simp only [Act.put, List.setIfInBounds_toArray, List.set_cons_zero, List.set_cons_succ]
      refine wpAnyH_take (i := 6) (oi := ⟨some 15, _, _, _, _, _⟩) (v := ?_) rfl (by kernel_rfl) (by kernel_rfl) (by kernel_rfl) (fun _ _ _ h => h) (Or.inl ⟨by kernel_rfl, ?_⟩) hH ?_
      rotate_left 1
      · intro wq hq; have hq1 := hq.1; first | (go_simp; done) | (go_simp; with_reducible rfl)
      simp only [Act.put, List.setIfInBounds_toArray, List.set_cons_zero, List.set_cons_succ]
      refine wpAnyH_take (i := 7) (oi := ⟨some 16, _, _, _, _, _⟩) (v := ?_) rfl (by kernel_rfl) (by kernel_rfl) (by kernel_rfl) (fun _ _ _ h => h) (Or.inl ⟨by kernel_rfl, ?_⟩) hH ?_
      rotate_left 1
      · intro wq hq; have hq1 := hq.1; first | (go_simp; done) | (go_simp; with_reducible rfl)
      simp only [Act.put, List.setIfInBounds_toArray, List.set_cons_zero, List.set_cons_succ]
      refine wpAnyH_take (i := 8) (oi := ⟨some 17, _, _, _, _, _⟩) (v := ?_) rfl (by kernel_rfl) (by kernel_rfl) (by kernel_rfl) (fun _ _ _ h => h) (Or.inl ⟨by kernel_rfl, ?_⟩) hH ?_
      rotate_left 1
      · intro wq hq; have hq1 := hq.1; first | (go_simp; done) | (go_simp; with_reducible rfl)
      simp only [Act.put, List.setIfInBounds_toArray, List.set_cons_zero, List.set_cons_succ]
      refine wpAnyH_take (i := 9) (oi := ⟨some 18, _, _, _, _, _⟩) (v := ?_) rfl (by kernel_rfl) (by kernel_rfl) (by kernel_rfl) (fun _ _ _ h => h) (Or.inl ⟨by kernel_rfl, ?_⟩) hH ?_
      rotate_left 1
      · intro wq hq; have hq1 := hq.1; first | (go_simp; done) | (go_simp; with_reducible rfl)
      simp only [Act.put, List.setIfInBounds_toArray, List.set_cons_zero, List.set_cons_succ]
      refine wpAnyH_take (i := 10) (oi := ⟨some 19, _, _, _, _, _⟩) (v := ?_) rfl (by kernel_rfl) (by kernel_rfl) (by kernel_rfl) (fun _ _ _ h => h) (Or.inl ⟨by kernel_rfl, ?_⟩) hH ?_
      rotate_left 1
      · intro wq hq; have hq1 := hq.1; first | (go_simp; done) | (go_simp; with_reducible rfl)
      simp only [Act.put, List.setIfInBounds_toArray, List.set_cons_zero, List.set_cons_succ]
      refine wpAnyH_take (i := 11) (oi := ⟨some 20, _, _, _, _, _⟩) (v := ?_) rfl (by kernel_rfl) (by kernel_rfl) (by kernel_rfl) (fun _ _ _ h => h) (Or.inl ⟨by kernel_rfl, ?_⟩) hH ?_
      rotate_left 1
      · intro wq hq; have hq1 := hq.1; first | (go_simp; done) | (go_simp; with_reducible rfl)
      simp only [Act.put, List.setIfInBounds_toArray, List.set_cons_zero, List.set_cons_succ]
      refine wpAnyH_take (i := 13) (oi := ⟨some 22, _, _, _, _, _⟩) (v := ?_) rfl (by kernel_rfl) (by kernel_rfl) (by kernel_rfl) (fun _ _ _ h => h) (Or.inl ⟨by kernel_rfl, ?_⟩) hH ?_
      rotate_left 1
      · intro wq hq; have hq1 := hq.1; first | (go_simp; done) | (go_simp; with_reducible rfl)
      simp only [Act.put, List.setIfInBounds_toArray, List.set_cons_zero, List.set_cons_succ]
      refine wpAnyH_take (i := 14) (oi := ⟨some 23, _, _, _, _, _⟩) (v := ?_) rfl (by kernel_rfl) (by kernel_rfl) (by kernel_rfl) (fun _ _ _ h => h) (Or.inl ⟨by kernel_rfl, ?_⟩) hH ?_
      rotate_left 1
      · intro wq hq; have hq1 := hq.1; first | (go_simp; done) | (go_simp; with_reducible rfl)
      simp only [Act.put, List.setIfInBounds_toArray, List.set_cons_zero, List.set_cons_succ]
      refine wpAnyH_take (i := 15) (oi := ⟨some 24, _, _, _, _, _⟩) (v := ?_) rfl (by kernel_rfl) (by kernel_rfl) (by kernel_rfl) (fun _ _ _ h => h) (Or.inl ⟨by kernel_rfl, ?_⟩) hH ?_
      rotate_left 1
      · intro wq hq; have hq1 := hq.1; first | (go_simp; done) | (go_simp; with_reducible rfl)
      simp only [Act.put, List.setIfInBounds_toArray, List.set_cons_zero, List.set_cons_succ]
      refine wpAnyH_take (i := 16) (oi := ⟨some 25, _, _, _, _, _⟩) (v := ?_) rfl (by kernel_rfl) (by kernel_rfl) (by kernel_rfl) (fun _ _ _ h => h) (Or.inl ⟨by kernel_rfl, ?_⟩) hH ?_
      rotate_left 1
      · intro wq hq; have hq1 := hq.1; first | (go_simp; done) | (go_simp; with_reducible rfl)
      simp only [Act.put, List.setIfInBounds_toArray, List.set_cons_zero, List.set_cons_succ]
      refine wpAnyH_take (i := 17) (oi := ⟨some 26, _, _, _, _, _⟩) (v := ?_) rfl (by kernel_rfl) (by kernel_rfl) (by kernel_rfl) (fun _ _ _ h => h) (Or.inl ⟨by kernel_rfl, ?_⟩) hH ?_
      rotate_left 1
      · intro wq hq; have hq1 := hq.1; first | (go_simp; done) | (go_simp; with_reducible rfl)
      simp only [Act.put, List.setIfInBounds_toArray, List.set_cons_zero, List.set_cons_succ]
      refine wpAnyH_take (i := 18) (oi := ⟨some 27, _, _, _, _, _⟩) (v := ?_) rfl (by kernel_rfl) (by kernel_rfl) (by kernel_rfl) (fun _ _ _ h => h) (Or.inl ⟨by kernel_rfl, ?_⟩) hH ?_
      rotate_left 1
      · intro wq hq; have hq1 := hq.1; first | (go_simp; done) | (go_simp; with_reducible rfl)
      simp only [Act.put, List.setIfInBounds_toArray, List.set_cons_zero, List.set_cons_succ]
      refine wpAnyH_take (i := 19) (oi := ⟨some 28, _, _, _, _, _⟩) (v := ?_) rfl (by kernel_rfl) (by kernel_rfl) (by kernel_rfl) (fun _ _ _ h => h) (Or.inl ⟨by kernel_rfl, ?_⟩) hH ?_
      rotate_left 1
      · intro wq hq; have hq1 := hq.1; first | (go_simp; done) | (go_simp; with_reducible rfl)
      simp only [Act.put, List.setIfInBounds_toArray, List.set_cons_zero, List.set_cons_succ]
      refine wpAnyH_take (i := 20) (oi := ⟨some 29, _, _, _, _, _⟩) (v := ?_) rfl (by kernel_rfl) (by kernel_rfl) (by kernel_rfl) (fun _ _ _ h => h) (Or.inl ⟨by kernel_rfl, ?_⟩) hH ?_
      rotate_left 1
      · intro wq hq; have hq1 := hq.1; first | (go_simp; done) | (go_simp; with_reducible rfl)
      simp only [Act.put, List.setIfInBounds_toArray, List.set_cons_zero, List.set_cons_succ]
      refine wpAnyH_take (i := 21) (oi := ⟨some 30, _, _, _, _, _⟩) (v := ?_) rfl (by kernel_rfl) (by kernel_rfl) (by kernel_rfl) (fun _ _ _ h => h) (Or.inl ⟨by kernel_rfl, ?_⟩) hH ?_
      rotate_left 1
      · intro wq hq; have hq1 := hq.1; first | (go_simp; done) | (go_simp; with_reducible rfl)
      simp only [Act.put, List.setIfInBounds_toArray, List.set_cons_zero, List.set_cons_succ]
      refine wpAnyH_ready (rs := [12]) (by kernel_rfl) (by simp) (AllReadyH.cons (o := ⟨some 21, _, _, _, _, _⟩) rfl (fun K hK => ?_) AllReadyH.nil)
      go_simp
      refine (HO.out _).mono ?_
      rintro e w2 ⟨rfl, hb2⟩
      go_wp2_with fail
      refine hK.out _ _ ?_ (fun hH => ?_)
      · have hs := hH.2.size; exact ⟨(hb2.cell (p := ⟨b, 0, none⟩) (by first | omega | (simp; omega))).trans hH.1, below_then hH.2 hb2 hH.2.size⟩
      clear hK K
      try simp only [Act.put, List.setIfInBounds_toArray, List.set_cons_zero, List.set_cons_succ]
      refine wpAnyH_take (i := 22) (oi := ⟨some 31, _, _, _, _, _⟩) (v := ?_) rfl (by kernel_rfl) (by kernel_rfl) (by kernel_rfl) (fun _ _ _ h => h) (Or.inl ⟨by kernel_rfl, ?_⟩) hH ?_
      rotate_left 1
      · intro wq hq; have hq1 := hq.1; first | (go_simp; done) | (go_simp; with_reducible rfl)
      simp only [Act.put, List.setIfInBounds_toArray, List.set_cons_zero, List.set_cons_succ]
      refine wpAnyH_take (i := 23) (oi := ⟨some 32, _, _, _, _, _⟩) (v := ?_) rfl (by kernel_rfl) (by kernel_rfl) (by kernel_rfl) (fun _ _ _ h => h) (Or.inl ⟨by kernel_rfl, ?_⟩) hH ?_
      rotate_left 1
      · intro wq hq; have hq1 := hq.1; first | (go_simp; done) | (go_simp; with_reducible rfl)
      simp only [Act.put, List.setIfInBounds_toArray, List.set_cons_zero, List.set_cons_succ]
      refine wpAnyH_take (i := 24) (oi := ⟨some 33, _, _, _, _, _⟩) (v := ?_) rfl (by kernel_rfl) (by kernel_rfl) (by kernel_rfl) (fun _ _ _ h => h) (Or.inl ⟨by kernel_rfl, ?_⟩) hH ?_
      rotate_left 1
      · intro wq hq; have hq1 := hq.1; first | (go_simp; done) | (go_simp; with_reducible rfl)
      simp only [Act.put, List.setIfInBounds_toArray, List.set_cons_zero, List.set_cons_succ]
      refine wpAnyH_take (i := 25) (oi := ⟨some 34, _, _, _, _, _⟩) (v := ?_) rfl (by kernel_rfl) (by kernel_rfl) (by kernel_rfl) (fun _ _ _ h => h) (Or.inl ⟨by kernel_rfl, ?_⟩) hH ?_
      rotate_left 1
      · intro wq hq; have hq1 := hq.1; first | (go_simp; done) | (go_simp; with_reducible rfl)
      simp only [Act.put, List.setIfInBounds_toArray, List.set_cons_zero, List.set_cons_succ]
      refine wpAnyH_take (i := 26) (oi := ⟨some 35, _, _, _, _, _⟩) (v := ?_) rfl (by kernel_rfl) (by kernel_rfl) (by kernel_rfl) (fun _ _ _ h => h) (Or.inl ⟨by kernel_rfl, ?_⟩) hH ?_
      rotate_left 1
      · intro wq hq; have hq1 := hq.1; first | (go_simp; done) | (go_simp; with_reducible rfl)
      simp only [Act.put, List.setIfInBounds_toArray, List.set_cons_zero, List.set_cons_succ]
      refine wpAnyH_take (i := 27) (oi := ⟨some 36, _, _, _, _, _⟩) (v := ?_) rfl (by kernel_rfl) (by kernel_rfl) (by kernel_rfl) (fun _ _ _ h => h) (Or.inl ⟨by kernel_rfl, ?_⟩) hH ?_
      rotate_left 1
      · intro wq hq; have hq1 := hq.1; first | (go_simp; done) | (go_simp; with_reducible rfl)
      simp only [Act.put, List.setIfInBounds_toArray, List.set_cons_zero, List.set_cons_succ]
      refine wpAnyH_take (i := 28) (oi := ⟨some 37, _, _, _, _, _⟩) (v := ?_) rfl (by kernel_rfl) (by kernel_rfl) (by kernel_rfl) (fun _ _ _ h => h) (Or.inl ⟨by kernel_rfl, ?_⟩) hH ?_
      rotate_left 1
      · intro wq hq; have hq1 := hq.1; first | (go_simp; done) | (go_simp; with_reducible rfl)
      simp only [Act.put, List.setIfInBounds_toArray, List.set_cons_zero, List.set_cons_succ]
      refine wpAnyH_take (i := 29) (oi := ⟨some 38, _, _, _, _, _⟩) (v := ?_) rfl (by kernel_rfl) (by kernel_rfl) (by kernel_rfl) (fun _ _ _ h => h) (Or.inl ⟨by kernel_rfl, ?_⟩) hH ?_
      rotate_left 1
      · intro wq hq; have hq1 := hq.1; first | (go_simp; done) | (go_simp; with_reducible rfl)
      simp only [Act.put, List.setIfInBounds_toArray, List.set_cons_zero, List.set_cons_succ]
      refine wpAnyH_take (i := 30) (oi := ⟨some 39, _, _, _, _, _⟩) (v := ?_) rfl (by kernel_rfl) (by kernel_rfl) (by kernel_rfl) (fun _ _ _ h => h) (Or.inl ⟨by kernel_rfl, ?_⟩) hH ?_
      rotate_left 1
      · intro wq hq; have hq1 := hq.1; first | (go_simp; done) | (go_simp; with_reducible rfl)
      simp only [Act.put, List.setIfInBounds_toArray, List.set_cons_zero, List.set_cons_succ]
      refine wpAnyH_take (i := 31) (oi := ⟨some 40, _, _, _, _, _⟩) (v := ?_) rfl (by kernel_rfl) (by kernel_rfl) (by kernel_rfl) (fun _ _ _ h => h) (Or.inl ⟨by kernel_rfl, ?_⟩) hH ?_
      rotate_left 1
      · intro wq hq; have hq1 := hq.1; first | (go_simp; done) | (go_simp; with_reducible rfl)
      simp only [Act.put, List.setIfInBounds_toArray, List.set_cons_zero, List.set_cons_succ]
      refine wpAnyH_take (i := 32) (oi := ⟨some 41, _, _, _, _, _⟩) (v := ?_) rfl (by kernel_rfl) (by kernel_rfl) (by kernel_rfl) (fun _ _ _ h => h) (Or.inl ⟨by kernel_rfl, ?_⟩) hH ?_
      rotate_left 1
      · intro wq hq; have hq1 := hq.1; first | (go_simp; done) | (go_simp; with_reducible rfl)
      simp only [Act.put, List.setIfInBounds_toArray, List.set_cons_zero, List.set_cons_succ]
      refine wpAnyH_take (i := 33) (oi := ⟨some 6, _, _, _, _, _⟩) (v := ?_) rfl (by kernel_rfl) (by kernel_rfl) (by kernel_rfl) (fun _ _ _ h => h) (Or.inl ⟨by kernel_rfl, ?_⟩) hH ?_
      rotate_left 1
      · intro wq hq; have hq1 := hq.1; first | (go_simp; done) | (go_simp; with_reducible rfl)
      simp only [Act.put, List.setIfInBounds_toArray, List.set_cons_zero, List.set_cons_succ]
      refine wpAnyH_done (by kernel_rfl) ?_ _
      go_wp2_with fail
      go_ret
      exact ⟨ret_bool HA.out.symm, hH.2⟩
end Go.Proofs.YtkogjjeoihnjpaaGreat
end
section
set_option linter.unusedVariables false
set_option linter.unusedSimpArgs false
namespace Go.Proofs.YtkogjjeoihnjpaaGreat
open Go.RowKit

def romW (i : Nat) : Int := [663, 33719699, 4047512947, 25342595, 163943, 0, 2147483648, 0].getD i 0
def romAt (k : Nat) : Int := if k < 32 then romW (k / 4) / 2 ^ (8 * (k % 4)) % 256 else 0
def romArr (n : Nat) : Array Value := ((List.range 4096).map fun k => Value.int .u8 (if k < n then romAt k else 0)).toArray
theorem romArr_get (n k : Nat) (h : k < 4096) : (romArr n)[k]? = some (.int .u8 (if k < n then romAt k else 0)) := by
  unfold romArr
  simp [h]
theorem romArr0 : madeCells #[(.int .u8 0)] 4096 = romArr 0 := by
  unfold madeCells romArr
  apply Array.ext'
  simp [Array.toList_range]
  intro a ha
  simp [Nat.mod_one]
theorem romArr_set (n : Nat) (v : Int) (h : n < 4096) (hv : v = romAt n) : (romArr n).setIfInBounds n (.int .u8 v) = romArr (n+1) := by
  unfold romArr
  apply Array.ext'
  apply List.ext_getElem
  · simp
  intro i h1 h2
  simp [List.getElem_set]
  by_cases hi : n = i
  · subst hi; simp [hv]
  · simp only [hi, if_false]
    have e : i < n ↔ i < n + 1 := by omega
    simp [e]
theorem romW_step (n k : Nat) (hk : k < 4) (hn : n < 8) : romW n / 2 ^ (8 * k) % 256 = romAt (4 * n + k) := by
  unfold romAt
  rw [if_pos (by omega), show (4 * n + k) / 4 = n by omega, show (4 * n + k) % 4 = k by omega]
theorem romAt_bd (k : Nat) : 0 ≤ romAt k ∧ romAt k ≤ 255 := by
  unfold romAt
  split
  · omega
  · omega
theorem rom_make (w : World) : (Instr.makeSlice 22 (.int .i64 4096) (.int .i64 4096)).run Tryz.prog w = .ok (.slice (some ⟨w.heap.size, 0, none⟩) 4096 4096) (w.alloc (.cells (romArr 0) 5)) := by
  have h := run_make_row' (P := Tryz.prog) 22 5 (.int .u8 0) 1 Tryz.underlying22 A_info5 rfl .i64 .i64 4096 (by omega) (by omega) w
  rw [romArr0] at h
  exact h
theorem rom_index : ∀ (n : Nat) (h : n < 8) (w : World), (Instr.index 242 (.agg #[Value.int IntKind.u32 663, Value.int IntKind.u32 33719699, Value.int IntKind.u32 4047512947,
    Value.int IntKind.u32 25342595, Value.int IntKind.u32 163943, Value.int IntKind.u32 0,
    Value.int IntKind.u32 2147483648, Value.int IntKind.u32 0]) (.int .i64 n)).run Tryz.prog w = .ok (.int .u32 (romW n)) w
  | 0, _, _ => by kernel_rfl
  | 1, _, _ => by kernel_rfl
  | 2, _, _ => by kernel_rfl
  | 3, _, _ => by kernel_rfl
  | 4, _, _ => by kernel_rfl
  | 5, _, _ => by kernel_rfl
  | 6, _, _ => by kernel_rfl
  | 7, _, _ => by kernel_rfl
  | n + 8, h, _ => absurd h (by omega)

set_option maxHeartbeats 1000000 in
theorem rom_bytes (w : World) :
    Calls Tryz.prog 238 #[] w fun e w' => e = .returned (.slice (some ⟨w.heap.size + 1, 0, none⟩) 4096 4096) ∧ w'.heap[w.heap.size + 1]? = some (.cells (romArr 32) 5 (0,0)) ∧ Below w.heap.size w w' := by
  have hmk := rom_make
  go_enter Tryz.func238, Tryz.ntmps238
  go_wp2_with fail
  clear hmk
  go_loopw [9] (fun i wr => ∃ n : Nat, n ≤ 8 ∧ i = .int .i64 n ∧ wr.heap[w.heap.size + 1]? = some (.cells (romArr (4*n)) 5 (0,0)) ∧ Below w.heap.size w wr) (fun i _ => 8 - (intOf i).toNat)
  case atStart => exact ⟨0, by omega, rfl, by simpa using blk_alloc (w.alloc _) _, ((Below.refl _ _).alloc (Nat.le_refl _) _).alloc (by simp) _⟩
  case round =>
    obtain ⟨n, hn, rfl, hh, hb⟩ := hrel
    by_cases hlt : n < 8
    · have hix := rom_index n hlt
      go_wp2_with fail
      clear hix
      go_loopw [13] (fun k wr => ∃ m : Nat, m ≤ 4 ∧ k = .int .i64 m ∧ wr.heap[w.heap.size + 1]? = some (.cells (romArr (4*n+m)) 5 (0,0)) ∧ Below w.heap.size w wr) (fun i _ => 4 - (intOf i).toNat)
      case atStart => exact ⟨0, by omega, rfl, hh, hb⟩
      case round =>
        clear hh hb
        obtain ⟨m, hm, rfl, hh, hb⟩ := hrel
        by_cases hl2 : m < 4
        · have hc := (blk_cell hh (4*n+m)).trans (romArr_get _ _ (by omega))
          have hf := blk_frozen hh (4*n+m)
          have H : Hid ((wr.setCell ⟨w.heap.size + 1, 4*n+m, none⟩ (.int .u8 (romW n / 2 ^ (8 * m) % 256))).heap[w.heap.size + 1]? = some (.cells (romArr (4*n+(m+1))) 5 (0,0))) := by
            have h1 := blk_set hh (4*n+m) (.int .u8 (romW n / 2 ^ (8 * m) % 256))
            rw [romArr_set _ _ (by omega) (romW_step n m hl2 hlt)] at h1
            exact h1
          have HB : Hid (Below w.heap.size w (wr.setCell ⟨w.heap.size + 1, 4*n+m, none⟩ (.int .u8 (romW n / 2 ^ (8 * m) % 256)))) := hb.setCell (by simp) _
          clear hh hb
          go_wp2_with fail
          go_roundw
          case rel => exact ⟨m + 1, by omega, by go_num, H.out, HB.out⟩
          case measure => simp [intOf]; omega
        · have hm4 : m = 4 := by omega
          have HH : Hid (wr.heap[w.heap.size + 1]? = some (.cells (romArr (4*(n+1))) 5 (0,0))) := by
            rw [show 4 * (n+1) = 4*n+m by omega]; exact hh
          have HB : Hid (Below w.heap.size w wr) := hb
          clear hh hb hm4
          go_wp2_with fail
          go_roundw
          case rel => exact ⟨n + 1, by omega, by go_num, HH.out, HB.out⟩
          case measure => simp [intOf]; omega
    · go_wp2_with fail
      go_ret
      exact ⟨rfl, by simpa [show n = 8 by omega] using hh, hb⟩
theorem rom_list : ∀ (n : Nat) (h : n < 8), ([Value.int IntKind.u32 663, Value.int IntKind.u32 33719699, Value.int IntKind.u32 4047512947,
    Value.int IntKind.u32 25342595, Value.int IntKind.u32 163943, Value.int IntKind.u32 0,
    Value.int IntKind.u32 2147483648, Value.int IntKind.u32 0] : List Value)[n]? = some (.int .u32 (romW n))
  | 0, _ => rfl
  | 1, _ => rfl
  | 2, _ => rfl
  | 3, _ => rfl
  | 4, _ => rfl
  | 5, _ => rfl
  | 6, _ => rfl
  | 7, _ => rfl
  | n + 8, h => absurd h (by omega)

set_option maxHeartbeats 1000000 in
theorem ref_at (k : Int) (h0 : 0 ≤ k) (w : World) :
    Calls Tryz.prog 206 #[.int .i64 k] w fun e w' => e = .returned (.int .u8 (romAt k.toNat)) ∧ Below w.heap.size w w' := by
  obtain ⟨n, rfl⟩ := Int.eq_ofNat_of_zero_le h0
  by_cases h : n < 32
  · have hl := rom_list (n / 4) (by omega)
    have hr : Hid (romW (n / 4) / 2 ^ (8 * (n % 4)) % 256 = romAt n) := by unfold romAt; rw [if_pos h]; rfl
    go_enter Tryz.func206, Tryz.ntmps206
    go_wp2
    go_ret
    exact ⟨ret_int hr.out, (Below.refl _ _).alloc (Nat.le_refl _) _⟩
  · have hr : Hid (romAt n = 0) := by unfold romAt; rw [if_neg h]; rfl
    go_enter Tryz.func206, Tryz.ntmps206
    go_wp2
    go_ret
    exact ⟨ret_int hr.out.symm, (Below.refl _ _).alloc (Nat.le_refl _) _⟩
/-- the slice at a, of len bytes, reads as l. -/
structure IsB (w : World) (a : Option Addr) (len : Nat) (l : List Int) : Prop where
  hlen : l.length = len
  bd : ∀ x ∈ l, 0 ≤ x ∧ x ≤ 255
  cell : (a = none ∧ len = 0) ∨ ∃ b o, a = some ⟨b, o, none⟩ ∧ ∀ i, i < len → w.cell? ⟨b, o + i, none⟩ = some (.int .u8 (l.getD i 0))

theorem strOfNums_inj (l1 l2 : List Int) (h1 : ∀ x ∈ l1, 0 ≤ x ∧ x ≤ 255) (h2 : ∀ x ∈ l2, 0 ≤ x ∧ x ≤ 255) :
    (l1.map fun n => UInt8.ofNat n.toNat) = (l2.map fun n => UInt8.ofNat n.toNat) ↔ l1 = l2 := by
  constructor
  · intro h
    induction l1 generalizing l2 with
    | nil => cases l2 <;> simp_all
    | cons x l1 ih =>
      cases l2 with
      | nil => simp at h
      | cons y l2 =>
        simp only [List.map_cons, List.cons.injEq] at h
        have hx := h1 x (by simp)
        have hy := h2 y (by simp)
        have e := congrArg UInt8.toNat h.1
        simp at e
        have : x = y := by omega
        rw [this, ih l2 (fun z hz => h1 z (by simp [hz])) (fun z hz => h2 z (by simp [hz])) h.2]
  · intro h; rw [h]

/-- bytes l1, l2 alike, as the call of same.Bytes answers it. -/
def eqB (l1 l2 : List Int) : Bool := decide (l1 = l2)

theorem eqB_str (l1 l2 : List Int) (b1 : ∀ x ∈ l1, 0 ≤ x ∧ x ≤ 255) (b2 : ∀ x ∈ l2, 0 ≤ x ∧ x ≤ 255) : ((strOfNums l1).toList == (strOfNums l2).toList) = eqB l1 l2 := by
  unfold eqB
  rw [ByteArray.toList_eq, ByteArray.toList_eq, strOfNums_data, strOfNums_data, Bool.eq_iff_iff]
  simp [strOfNums_inj l1 l2 b1 b2]
theorem run_bytes_str {w : World} {a : Option Addr} {n : Nat} {l : List Int} (h : IsB w a n l) (c : Nat) :
    (convert 22 9 (.slice a n c)).run Tryz.prog w = .ok (.string (strOfNums l)) w := by
  obtain ⟨e, _, h⟩ := h
  rcases h with ⟨rfl, rfl⟩ | ⟨B, o, rfl, h⟩
  · have := run_convert_bytes_nil w (P := Tryz.prog) 22 5 Tryz.underlying22 Tryz.underlying5 0 c 9 Tryz.underlying9
    rw [List.eq_nil_of_length_eq_zero e]
    exact this
  · exact run_convert_bytes_arg w (P := Tryz.prog) 22 5 Tryz.underlying22 Tryz.underlying5 B o n c l e h 9 Tryz.underlying9
set_option maxHeartbeats 400000 in
theorem same_bytes (a1 a2 : Option Addr) (n1 n2 c1 c2 : Nat) (l1 l2 : List Int) (w : World) (h1 : IsB w a1 n1 l1) (h2 : IsB w a2 n2 l2) :
    Calls Tryz.prog 58 #[.slice a1 n1 c1, .slice a2 n2 c2] w fun e w' => e = .returned (.bool (eqB l1 l2)) ∧ w = w' := by
  have fin : Hid (((strOfNums l1).toList == (strOfNums l2).toList) = eqB l1 l2) := eqB_str l1 l2 h1.bd h2.bd
  have k1 := run_bytes_str h1 c1
  have k2 := run_bytes_str h2 c2
  clear h1 h2
  go_enter Tryz.func58, Tryz.ntmps58
  go_wp2
  go_ret
  exact ⟨ret_bool fin.out, rfl⟩

/-- a stretch of the ROM -/
def romL (off n : Nat) : List Int := (List.range n).map fun i => romAt (off + i)
theorem romL_len (off n : Nat) : (romL off n).length = n := by simp [romL]
theorem romL_get (off n i : Nat) (h : i < n) : (romL off n).getD i 0 = romAt (off + i) := by simp [romL, List.getD, h]
theorem romL_snoc (off n : Nat) : romL off (n + 1) = romL off n ++ [romAt (off + n)] := by simp [romL, List.range_succ]
theorem romL_bd (off n : Nat) : ∀ x ∈ romL off n, 0 ≤ x ∧ x ≤ 255 := by
  intro x hx
  simp [romL] at hx
  obtain ⟨i, _, rfl⟩ := hx
  exact romAt_bd _
theorem romAt32 (k : Nat) : (if k < 32 then romAt k else 0) = romAt k := by
  unfold romAt; split <;> simp_all
theorem bytes_own {w : World} {base : Nat} {v : Value} {n : Nat} {l : List Int} (h : w.ownsRow base 5 1 v n (l.map (Value.int .u8))) (hb : ∀ x ∈ l, 0 ≤ x ∧ x ≤ 255) :
    ∃ a c, v = .slice a n c ∧ IsB w a n l := by
  have hl : l.length = n := by have := h.1; simpa using this
  rcases h.2 with ⟨rfl, rfl⟩ | ⟨g, cap, cur, rfl, hg, hh, hn, hm, hs, ht⟩
  · exact ⟨none, 0, rfl, hl, hb, .inl ⟨rfl, rfl⟩⟩
  · refine ⟨_, _, rfl, hl, hb, .inr ⟨g, 0, rfl, fun i hi => ?_⟩⟩
    have hc := h.cells (g := g) rfl i (.int .u8 (l.getD i 0)) (by simp [List.getD, hl, hi])
    have hadd : (⟨g, 0, none⟩ : Addr).add i = ⟨g, 0 + i, none⟩ := by unfold Addr.add; split <;> simp_all
    rw [hadd] at hc
    exact hc


/-- it answered the bytes l and no error, and turned nothing that was there -/
def BytesOk (w : World) (n : Nat) (l : List Int) (e : Ending) (w' : World) : Prop := ∃ a c, e = .returned (.tuple #[.slice a n c, .int .i64 0]) ∧ IsB w' a n l ∧ Below w.heap.size w w'
set_option maxRecDepth 100000 in
set_option maxHeartbeats 1000000 in
theorem rom_read (off n : Nat) (h : off + n ≤ 4096) (w : World) :
    Calls Tryz.prog 151 #[.int .u64 off, .int .i64 n] w (BytesOk w n (romL off n)) := by
  have h1 : (off : Int) ≤ 4096 := by omega
  have h2 : (n : Int) ≤ 4096 - off := by omega
  have H := Lib.hid h; clear h
  go_enter Tryz.func151, Tryz.ntmps151
  go_wp2_with fail
  refine (rom_bytes w).mono ?_
  rintro e w1 ⟨rfl, hh, hb⟩
  have HH := Lib.hid hh; have HB := Lib.hid hb; clear hh hb
  have hsrc : Hid (SrcIs w1 (if 4096 = off then some { block := w.heap.size + 1, off := 0 } else some { block := w.heap.size + 1, off := off }) (off + n - off) ((romL off n).map (Value.int .u8))) := by
    have := H.out
    refine ⟨by rw [List.length_map, romL_len]; omega, .inr ⟨w.heap.size + 1, if 4096 = off then 0 else off, by split <;> rfl, fun i hi => ?_⟩⟩
    rw [if_neg (by omega), blk_cell HH.out, romArr_get _ _ (by omega), romAt32, List.getElem?_map, List.getElem?_eq_getElem (by rw [romL_len]; omega)]
    simp [romL]
  have hone : Hid (∀ u ∈ (romL off n).map (Value.int .u8), u.oneCell' = true) := by intro u hu; simp at hu; obtain ⟨_, _, rfl⟩ := hu; rfl
  have hby : Hid ((0 + (off + n - off)) * 1 ≤ 140737488355328) := by have := H.out; show _ ≤ _; omega
  have h63 : Hid (0 + (off + n - off) ≤ maxLen) := by have := H.out; show _ ≤ _; unfold maxLen; omega
  go_wp2_with (at_builtin; refine wpList_app rfl _ _ 22 rfl w.heap.size 5 (.int .u8 0) 1 Tryz.underlying22 A_info5 rfl (.slice none 0 0) 0 [] rfl (World.ownsRow_nil _ _ _ _) _ _ _ ((romL off n).map (Value.int .u8)) rfl hsrc.out hone.out hby.out h63.out HB.out.size ?_; intro v' w2 hown hg _)
  all_goals
    have HO : BytesOk w n (romL off n) (.returned (.tuple #[v', .int .i64 0])) w2 := by
      rw [show 0 + (off + n - off) = n by omega] at hown
      obtain ⟨a, c, rfl, hb⟩ := bytes_own hown (romL_bd off n)
      exact ⟨a, c, rfl, hb, HB.out.grown hg HB.out.size (by intro k hk; cases hk)⟩
    go_ret2
    exact HO
end Go.Proofs.YtkogjjeoihnjpaaGreat
end
section
set_option linter.unusedVariables false
set_option linter.unusedSimpArgs false
namespace Go.Proofs.YtkogjjeoihnjpaaGreat
open Go.RowKit
/-- the same at RamAt -/
theorem ram_all_at {w : World} {b n : Nat} {ct : Nat → Nat} {S : Nat → Prop} (h : RamAt w b n ct S) (x : Int) (x0 : 0 ≤ x) (x1 : x < 18446744073709551616) (k : Int) (k0 : 0 ≤ k) (k1 : k < 9223372036854775808) :
    Calls Tryz.prog 136 #[.pointer (some ⟨b, 0, none⟩), .int .u64 x, .int .i64 k] w fun e w' => e = .returned (.bool (ramAll n x k)) ∧ Below w.heap.size w w' := by
  obtain ⟨m, pg, h, rfl⟩ := h
  exact ram_all h x x0 x1 k k0 k1
theorem ram_get_at {w : World} {b n : Nat} {ct : Nat → Nat} {S : Nat → Prop} (h : RamAt w b n ct S) (x : Int) (x0 : 0 ≤ x) (x1 : x < 1048576) :
    Calls Tryz.prog 137 #[.pointer (some ⟨b, 0, none⟩), .int .i64 x] w fun e w' => e = .returned (.int .u8 (ct x.toNat)) ∧ w = w' := by
  obtain ⟨m, pg, h, rfl⟩ := h
  exact ram_get h x x0 x1
theorem ram_set_at {w : World} {b n : Nat} {ct : Nat → Nat} {S : Nat → Prop} (h : RamAt w b n ct S) (x : Int) (x0 : 0 ≤ x) (x1 : x < 1048576) (v : Nat) (hv : v < 256) :
    Calls Tryz.prog 252 #[.pointer (some ⟨b, 0, none⟩), .int .i64 x, .int .u8 v] w fun e w' => e = .returned (.tuple #[]) ∧ RamTo w w' b n (updB ct x.toNat v) S := by
  obtain ⟨m, pg, h, rfl⟩ := h
  exact ram_set h x x0 x1 v hv
theorem RamAt.lo {w : World} {b n : Nat} {ct : Nat → Nat} {S : Nat → Prop} (h : RamAt w b n ct S) : 4 ≤ n ∧ n ≤ 256 := by
  obtain ⟨m, pg, h, rfl⟩ := h
  exact ⟨h.lo, h.hi⟩
theorem RamAt.bd {w : World} {b n : Nat} {ct : Nat → Nat} {S : Nat → Prop} (h : RamAt w b n ct S) (i : Nat) : ct i < 256 := by
  obtain ⟨m, pg, h, rfl⟩ := h
  exact h.bd i
theorem RamAt.at0 {w : World} {b n : Nat} {ct : Nat → Nat} {S : Nat → Prop} (h : RamAt w b n ct S) : w.cell? ⟨b, 0, none⟩ = some (.int .i64 n) := by
  obtain ⟨m, pg, h, rfl⟩ := h
  exact blk_cell h.at_ 0
theorem RamAt.drew {w : World} {b n : Nat} {ct : Nat → Nat} {S : Nat → Prop} (h : RamAt w b n ct S) : RamAt w.drew b n ct S := h.below (Below.refl _ _).drew
/-- the bytes from there on -/
def bytesAt (ct : Nat → Nat) (off k : Nat) : List Int := (List.range k).map fun i => (ct (off + i) : Int)
theorem bytesAt_len (ct : Nat → Nat) (off k : Nat) : (bytesAt ct off k).length = k := by simp [bytesAt]
theorem bytesAt_snoc (ct : Nat → Nat) (off k : Nat) : bytesAt ct off (k + 1) = bytesAt ct off k ++ [(ct (off + k) : Int)] := by simp [bytesAt, List.range_succ]
theorem bytesAt_bd {ct : Nat → Nat} (h : ∀ i, ct i < 256) (off k : Nat) : ∀ x ∈ bytesAt ct off k, 0 ≤ x ∧ x ≤ 255 := by
  intro x hx
  simp only [bytesAt, List.mem_map] at hx
  obtain ⟨i, _, rfl⟩ := hx
  have := h (off + i)
  omega
theorem bytesAt_getD (ct : Nat → Nat) (off k i : Nat) (h : i < k) : (bytesAt ct off k).getD i 0 = (ct (off + i) : Int) := by simp [bytesAt, List.getD, h]
/-- no bytes, and that error -/
def NoBytes (w : World) (k : Int) (e : Ending) (w' : World) : Prop := e = .returned (.tuple #[.slice none 0 0, .int .i64 k]) ∧ Below w.heap.size w w'
/-- those bytes in a slice of their own, no error -/
def OwnBytes (w : World) (n : Nat) (l : List Int) (e : Ending) (w' : World) : Prop := ∃ v, e = .returned (.tuple #[v, .int .i64 0]) ∧ w'.ownsRow w.heap.size 5 1 v n (l.map (Value.int .u8)) ∧ Below w.heap.size w w'
set_option maxRecDepth 100000 in
set_option maxHeartbeats 1000000 in
theorem ram_read_nil (x k : Int) (w : World) : Calls Tryz.prog 57 #[.pointer none, .int .u64 x, .int .i64 k] w (NoBytes w 2) := by
  have hB := Lib.hid (Below.refl w.heap.size w)
  go_enter Tryz.func57, Tryz.ntmps57
  go_wp2
  go_ret2
  exact ⟨rfl, hB.out⟩
set_option maxRecDepth 100000 in
set_option maxHeartbeats 1000000 in
theorem ram_read_neg (b : Nat) (x k : Int) (hk : k < 0) (w : World) : Calls Tryz.prog 57 #[.pointer (some ⟨b, 0, none⟩), .int .u64 x, .int .i64 k] w (NoBytes w 1) := by
  have hB := Lib.hid (Below.refl w.heap.size w)
  go_enter Tryz.func57, Tryz.ntmps57
  go_wp2
  go_ret2
  exact ⟨rfl, hB.out⟩
set_option maxRecDepth 100000 in
set_option maxHeartbeats 1000000 in
theorem ram_read_bus {w : World} {b n : Nat} {ct : Nat → Nat} {S : Nat → Prop} (h : RamAt w b n ct S) (x : Int) (x0 : 0 ≤ x) (x1 : x < 18446744073709551616) (k : Int) (k0 : 0 ≤ k) (k1 : k < 9223372036854775808) (ha : ramAll n x k = false) :
    Calls Tryz.prog 57 #[.pointer (some ⟨b, 0, none⟩), .int .u64 x, .int .i64 k] w (NoBytes w 6) := by
  have HA := Lib.hid (ram_all_at h x x0 x1 k k0 k1)
  rw [ha] at HA
  clear h ha x0 x1
  go_enter Tryz.func57, Tryz.ntmps57
  go_wp2_with fail
  refine HA.out.mono ?_
  rintro e w1 ⟨rfl, hb⟩
  have HB := Lib.hid hb
  clear hb
  go_wp2
  go_ret2
  exact ⟨rfl, HB.out⟩
set_option maxRecDepth 100000 in
set_option maxHeartbeats 2000000 in
theorem ram_read_ok {w : World} {b n : Nat} {ct : Nat → Nat} {S : Nat → Prop} (h : RamAt w b n ct S) (x : Int) (x0 : 0 ≤ x) (x1 : x < 18446744073709551616) (k : Nat) (ha : ramAll n x k = true) :
    Calls Tryz.prog 57 #[.pointer (some ⟨b, 0, none⟩), .int .u64 x, .int .i64 k] w (OwnBytes w k (bytesAt ct (x - 2147483648).toNat k)) := by
  have hlo := h.lo
  have hx : k = 0 ∨ (2147483648 ≤ x ∧ x - 2147483648 + k ≤ n * 4096) := by
    simp only [ramAll, isRam, Bool.or_eq_true, Bool.and_eq_true, decide_eq_true_eq] at ha
    omega
  have hk : (k : Int) ≤ 1048576 := by omega
  have HA := Lib.hid (ram_all_at h x x0 x1 k (by omega) (by omega))
  rw [ha] at HA
  have H := Lib.hid h
  have HX := Lib.hid hx
  have hn : (n : Int) ≤ 256 := by omega
  have HB0 := Lib.hid (bytesAt_snoc ct (x - 2147483648).toNat)
  have HL := Lib.hid (show bytesAt ct (x - 2147483648).toNat 0 = [] from rfl)
  clear h ha hx hlo
  generalize hO : (x - 2147483648).toNat = O at *
  have HO := Lib.hid hO
  clear hO
  go_enter Tryz.func57, Tryz.ntmps57
  go_wp2_with fail
  refine HA.out.mono ?_
  rintro e w1 ⟨rfl, hb⟩
  have HB := Lib.hid hb
  clear hb
  go_wp2_with fail
  go_loopw [8, 23] (fun v i wr => ∃ j : Nat, j ≤ k ∧ i = .int .i64 j ∧ wr.ownsRow w.heap.size 5 1 v j ((bytesAt ct O j).map (Value.int .u8)) ∧ Below w.heap.size w wr) (fun _ i _ => k - (intOf i).toNat)
  case atStart => exact ⟨0, by omega, rfl, by rw [HL.out]; exact World.ownsRow_nil _ _ _ _, HB.out⟩
  case round =>
    clear HB
    obtain ⟨j, hj, rfl, hown, hb⟩ := hrel
    have HW := Lib.hid hown
    have HBB := Lib.hid hb
    clear hown hb
    by_cases hlt : j < k
    · have hxx := HX.out
      have hp : IntKind.u64.wrap (x - 2147483648) = x - 2147483648 := by rw [IntKind.wrap_u64]; omega
      have hjj : (j : Int) < k := by omega
      have g0 : 0 ≤ x - 2147483648 := by omega
      have g1 : x - 2147483648 + j < 1048576 := by omega
      have HR := Lib.hid (H.out.below HBB.out)
      clear hxx hlt hj
      go_wp2_with fail
      refine (ram_get_at HR.out _ (by omega) (by omega)).mono ?_
      rintro e w2 ⟨rfl, rfl⟩
      have HO2 : Hid ((x - 2147483648 + (j : Int)).toNat = O + j) := by have := HO.out; show _ = _; omega
      rw [HO2.out]
      have hone : Hid (∀ u ∈ [Value.int .u8 (ct (O + j))], u.oneCell' = true) := by intro u hu; simp at hu; subst hu; rfl
      have hz : Hid (w.heap.size ≤ (wr.alloc (.cells #[Value.int .u8 (ct (O + j))] 5)).heap.size) := by have := HBB.out.size; show _ ≤ _; simp; omega
      go_wp2_with (at_builtin; refine wpList_app rfl _ _ 22 rfl w.heap.size 5 (.int .u8 0) 1 Tryz.underlying22 A_info5 rfl _ j _ rfl (HW.out.alloc _) _ _ _ [Value.int .u8 (ct (O + j))] rfl (src_one wr _ 5) hone.out (by omega) (by unfold maxLen; omega) hz.out ?_; intro v' w2 hown hg _; have HW2 := Lib.hid hown; have HG := Lib.hid hg; clear hown hg)
      all_goals
        refine ⟨⟨j + 1, by omega, by rw [Int.natCast_succ], ?_, ?_⟩, by simp [intOf]; omega⟩
        · rw [HB0.out, List.map_append]; exact HW2.out
        · exact own_base (HW.out.alloc _) HG.out (HBB.out.alloc HBB.out.size _) hz.out (Nat.le_refl _)
    · obtain rfl : j = k := by omega
      go_wp2
      go_ret2
      exact ⟨_, rfl, HW.out, HBB.out⟩
set_option maxRecDepth 100000 in
set_option maxHeartbeats 1000000 in
theorem ram_pages {w : World} {b n : Nat} {ct : Nat → Nat} {S : Nat → Prop} (h : RamAt w b n ct S) : Calls Tryz.prog 63 #[.pointer (some ⟨b, 0, none⟩)] w fun e w' => e = .returned (.int .i64 n) ∧ w = w' := by
  have c := h.at0
  clear h
  go_enter Tryz.func63, Tryz.ntmps63
  go_wp2
  go_ret
  exact ⟨rfl, rfl⟩
set_option maxRecDepth 100000 in
set_option maxHeartbeats 1000000 in
theorem ram_pages_nil (w : World) : Calls Tryz.prog 63 #[.pointer none] w fun e w' => e = .returned (.int .i64 0) ∧ w = w' := by
  go_enter Tryz.func63, Tryz.ntmps63
  go_wp2
  go_ret
  exact ⟨rfl, rfl⟩
end Go.Proofs.YtkogjjeoihnjpaaGreat
end
section
set_option linter.unusedVariables false
set_option linter.unusedSimpArgs false
namespace Go.Proofs.YtkogjjeoihnjpaaGreat
open Go.RowKit
/-- the number of which these are the bytes, the lowest first -/
def wordN (f : Nat → Nat) : Nat → Nat
  | 0 => 0
  | k + 1 => wordN f k + f k * 2 ^ (8 * k)
theorem wordN_lt {f : Nat → Nat} (h : ∀ i, f i < 256) : ∀ k, wordN f k < 2 ^ (8 * k)
  | 0 => by simp [wordN]
  | k + 1 => by
    have h1 := wordN_lt h k
    have h2 := h k
    have e : 2 ^ (8 * (k + 1)) = 256 * 2 ^ (8 * k) := by rw [show 8 * (k + 1) = 8 * k + 8 by omega, Nat.pow_add]; omega
    unfold wordN
    rw [e]
    have : f k * 2 ^ (8 * k) ≤ 255 * 2 ^ (8 * k) := Nat.mul_le_mul_right _ (by omega)
    omega
theorem wordN_congr {f g : Nat → Nat} : ∀ (k : Nat), (∀ i, i < k → f i = g i) → wordN f k = wordN g k
  | 0, _ => rfl
  | k + 1, h => by unfold wordN; rw [wordN_congr k (fun i hi => h i (by omega)), h k (by omega)]
theorem word_or {f : Nat → Nat} (h : ∀ i, f i < 256) {k : Nat} (hk : k < 8) : Value.int .u64 (bits .or .u64 (wordN f k : Nat) (IntKind.u64.wrap (IntKind.u64.wrap (f k : Int) * 2 ^ (8 * k)))) = .int .u64 (wordN f (k + 1) : Nat) := by
  have h1 := wordN_lt h k
  have h2 := wordN_lt h (k + 1)
  have h3 : (2 : Nat) ^ (8 * (k + 1)) ≤ 2 ^ 64 := Nat.pow_le_pow_right (by omega) (by omega)
  have e0 : IntKind.u64.wrap (f k : Int) = f k := by have := h k; rw [IntKind.wrap_u64]; omega
  have e : ((f k : Int) * 2 ^ (8 * k)) = ((f k * 2 ^ (8 * k) : Nat) : Int) := by rw [Int.natCast_mul, Int.natCast_pow]; rfl
  have e3 : wordN f (k + 1) = wordN f k + f k * 2 ^ (8 * k) := rfl
  have e4 : wordN f k + f k * 2 ^ (8 * k) = wordN f k ||| f k * 2 ^ (8 * k) := by rw [Nat.or_comm, Nat.mul_comm, ← Nat.two_pow_add_eq_or_of_lt h1, Nat.add_comm]
  rw [e0, e]
  rw [e3] at h2
  rw [e3, e4]
  rw [e4] at h2
  generalize f k * 2 ^ (8 * k) = A at *
  generalize wordN f k = B at *
  have hA : A < 18446744073709551616 := by omega
  have hB : B < 18446744073709551616 := by omega
  rw [IntKind.wrap_u64, Int.emod_eq_of_lt (by omega) (by omega), u64_or_nat _ _ hB hA]
set_option maxRecDepth 100000 in
set_option maxHeartbeats 2000000 in
theorem bits_word_le (a : Option Addr) (m c : Nat) (l : List Int) (w : World) (hb : IsB w a m l) (hm : (m : Int) ≤ 9223372036854775807) (h8 : (m : Int) ≤ 8) :
    Calls Tryz.prog 76 #[.slice a m c] w fun e w' => e = .returned (.int .u64 (wordN (fun i => (l.getD i 0).toNat) m : Nat)) ∧ w = w' := by
  have H := Lib.hid hb
  have H255 := Lib.hid (show ∀ i, (l.getD i 0).toNat < 256 from fun i => by
    by_cases hi : i < l.length
    · have := hb.bd (l.getD i 0) (by simp [List.getD, hi])
      omega
    · simp [List.getD, hi])
  clear hb
  generalize hf : (fun i => (l.getD i 0).toNat) = f
  have HF := Lib.hid hf
  have HLT := Lib.hid (show ∀ i, f i < 256 from fun i => by rw [← hf]; exact H255.out i)
  clear hf
  go_enter Tryz.func76, Tryz.ntmps76
  go_wp2_with fail
  go_loop [3, 8] (fun v i => ∃ k : Nat, (k : Int) ≤ m ∧ i = .int .i64 k ∧ v = .int .u64 (wordN f k : Nat)) (fun _ i => m - (intOf i).toNat)
  case atStart => exact ⟨0, by omega, rfl, rfl⟩
  case round =>
    obtain ⟨k, hk, rfl, rfl⟩ := hrel
    by_cases hlt : (k : Int) < m
    · have h1 : (k : Int) < m := by omega
      have h2 : (k : Int) < 8 := by omega
      clear hk
      obtain ⟨b, o, rfl, hc⟩ : ∃ b o, a = some ⟨b, o, none⟩ ∧ w.cell? ⟨b, o + k, none⟩ = some (.int .u8 (f k : Nat)) := by
        rcases H.out.cell with ⟨_, h0⟩ | ⟨b, o, rfl, h⟩
        · omega
        · refine ⟨b, o, rfl, (h k (by omega)).trans ?_⟩
          have : 0 ≤ l.getD k 0 := by
            by_cases hkl : k < l.length
            · have := H.out.bd (l.getD k 0) (by simp [List.getD, hkl])
              omega
            · simp [List.getD, hkl]
          rw [← HF.out]
          simp only
          rw [Int.toNat_of_nonneg this]
      have hor := word_or (k := k) HLT.out (by omega)
      have HO := Lib.hid hor
      clear hor
      go_wp2_with fail
      exact ⟨⟨k + 1, by omega, by rw [Int.natCast_succ], HO.out⟩, by simp [intOf]; omega⟩
    · obtain rfl : k = m := by omega
      go_wp2_with fail
      go_ret
      exact ⟨rfl, rfl⟩
set_option maxRecDepth 100000 in
set_option maxHeartbeats 2000000 in
theorem bits_word_gt (a : Option Addr) (m c : Nat) (l : List Int) (w : World) (hb : IsB w a m l) (hm : (m : Int) ≤ 9223372036854775807) (h8 : (8 : Int) < m) :
    Calls Tryz.prog 76 #[.slice a m c] w fun e w' => e = .returned (.int .u64 (wordN (fun i => (l.getD i 0).toNat) 8 : Nat)) ∧ w = w' := by
  have H := Lib.hid hb
  have H255 := Lib.hid (show ∀ i, (l.getD i 0).toNat < 256 from fun i => by
    by_cases hi : i < l.length
    · have := hb.bd (l.getD i 0) (by simp [List.getD, hi])
      omega
    · simp [List.getD, hi])
  clear hb
  generalize hf : (fun i => (l.getD i 0).toNat) = f
  have HF := Lib.hid hf
  have HLT := Lib.hid (show ∀ i, f i < 256 from fun i => by rw [← hf]; exact H255.out i)
  clear hf
  go_enter Tryz.func76, Tryz.ntmps76
  go_wp2_with fail
  go_loop [3, 8] (fun v i => ∃ k : Nat, (k : Int) ≤ 8 ∧ i = .int .i64 k ∧ v = .int .u64 (wordN f k : Nat)) (fun _ i => 8 - (intOf i).toNat)
  case atStart => exact ⟨0, by omega, rfl, rfl⟩
  case round =>
    obtain ⟨k, hk, rfl, rfl⟩ := hrel
    by_cases hlt : (k : Int) < 8
    · have h1 : (k : Int) < m := by omega
      have h2 : (k : Int) < 8 := by omega
      clear hk
      obtain ⟨b, o, rfl, hc⟩ : ∃ b o, a = some ⟨b, o, none⟩ ∧ w.cell? ⟨b, o + k, none⟩ = some (.int .u8 (f k : Nat)) := by
        rcases H.out.cell with ⟨_, h0⟩ | ⟨b, o, rfl, h⟩
        · omega
        · refine ⟨b, o, rfl, (h k (by omega)).trans ?_⟩
          have : 0 ≤ l.getD k 0 := by
            by_cases hkl : k < l.length
            · have := H.out.bd (l.getD k 0) (by simp [List.getD, hkl])
              omega
            · simp [List.getD, hkl]
          rw [← HF.out]
          simp only
          rw [Int.toNat_of_nonneg this]
      have hor := word_or (k := k) HLT.out (by omega)
      have HO := Lib.hid hor
      clear hor
      go_wp2_with fail
      exact ⟨⟨k + 1, by omega, by rw [Int.natCast_succ], HO.out⟩, by simp [intOf]; omega⟩
    · obtain rfl : k = 8 := by omega
      go_wp2_with fail
      go_ret
      exact ⟨rfl, rfl⟩
theorem bits_word (a : Option Addr) (m c : Nat) (l : List Int) (w : World) (hb : IsB w a m l) (hm : (m : Int) ≤ 9223372036854775807) :
    Calls Tryz.prog 76 #[.slice a m c] w fun e w' => e = .returned (.int .u64 (wordN (fun i => (l.getD i 0).toNat) (min m 8) : Nat)) ∧ w = w' := by
  by_cases h8 : (m : Int) ≤ 8
  · rw [show min m 8 = m by omega]; exact bits_word_le a m c l w hb hm h8
  · rw [show min m 8 = 8 by omega]; exact bits_word_gt a m c l w hb hm (by omega)
set_option maxRecDepth 100000 in
set_option maxHeartbeats 1000000 in
theorem bits_aligned (x : Int) (x0 : 0 ≤ x) (n : Nat) (h1 : 1 ≤ n) (h2 : (n : Int) ≤ 9223372036854775807) (w : World) :
    Calls Tryz.prog 139 #[.int .u64 x, .int .i64 n] w fun e w' => e = .returned (.bool (decide (x % n = 0))) ∧ w = w' := by
  have h3 : (1 : Int) ≤ n := by omega
  have hw : IntKind.u64.wrap (n : Int) = n := by rw [IntKind.wrap_u64]; omega
  go_enter Tryz.func139, Tryz.ntmps139
  go_wp2
  go_ret
  exact ⟨ret_bool (by first | rfl | simp), rfl⟩
/-- the bytes of a number, the lowest first -/
def numBytes (v k : Nat) : List Int := (List.range k).map fun i => ((v / 2 ^ (8 * i) % 256 : Nat) : Int)
theorem numBytes_snoc (v k : Nat) : numBytes v (k + 1) = numBytes v k ++ [((v / 2 ^ (8 * k) % 256 : Nat) : Int)] := by simp [numBytes, List.range_succ]
theorem numBytes_len (v k : Nat) : (numBytes v k).length = k := by simp [numBytes]
theorem numBytes_bd (v k : Nat) : ∀ x ∈ numBytes v k, 0 ≤ x ∧ x ≤ 255 := by
  intro x hx
  simp only [numBytes, List.mem_map] at hx
  obtain ⟨i, _, rfl⟩ := hx
  omega
/-- those bytes in a slice of their own -/
def OwnSlice (w : World) (n : Nat) (l : List Int) (e : Ending) (w' : World) : Prop := ∃ v, e = .returned v ∧ w'.ownsRow w.heap.size 5 1 v n (l.map (Value.int .u8)) ∧ Below w.heap.size w w'
set_option maxRecDepth 100000 in
set_option maxHeartbeats 2000000 in
theorem bits_bytes (v : Nat) (n : Nat) (hn : (n : Int) ≤ 8) (w : World) :
    Calls Tryz.prog 111 #[.int .u64 v, .int .i64 n] w (OwnSlice w n (numBytes v n)) := by
  have HB0 := Lib.hid (numBytes_snoc v)
  have HL := Lib.hid (show numBytes v 0 = [] from rfl)
  go_enter Tryz.func111, Tryz.ntmps111
  go_wp2_with fail
  go_loopw [5, 10] (fun s i wr => ∃ j : Nat, (j : Int) ≤ n ∧ i = .int .i64 j ∧ wr.ownsRow w.heap.size 5 1 s j ((numBytes v j).map (Value.int .u8)) ∧ Below w.heap.size w wr) (fun _ i _ => n - (intOf i).toNat)
  case atStart => exact ⟨0, by omega, rfl, by rw [HL.out]; exact World.ownsRow_nil _ _ _ _, Below.refl _ _⟩
  case round =>
    obtain ⟨j, hj, rfl, hown, hb⟩ := hrel
    have HW := Lib.hid hown
    have HBB := Lib.hid hb
    clear hown hb
    by_cases hlt : (j : Int) < n
    · clear hj
      have hj8 : (j : Int) < 8 := by omega
      have hb8 : IntKind.u8.wrap ((v : Int) / 2 ^ (8 * j)) = ((v / 2 ^ (8 * j) % 256 : Nat) : Int) := by
        rw [IntKind.wrap_u8, Int.natCast_emod, Int.natCast_ediv, Int.natCast_pow]; rfl
      have hz : Hid (w.heap.size ≤ (wr.alloc (.cells #[Value.int .u8 (v / 2 ^ (8 * j) % 256 : Nat)] 5)).heap.size) := by have := HBB.out.size; show _ ≤ _; simp; omega
      have hone : Hid (∀ u ∈ [Value.int .u8 (v / 2 ^ (8 * j) % 256 : Nat)], u.oneCell' = true) := by intro u hu; simp at hu; subst hu; rfl
      go_wp2_with (at_builtin; refine wpList_app rfl _ _ 22 rfl w.heap.size 5 (.int .u8 0) 1 Tryz.underlying22 A_info5 rfl _ j _ rfl (HW.out.alloc _) _ _ _ [Value.int .u8 (v / 2 ^ (8 * j) % 256 : Nat)] rfl (src_one wr _ 5) hone.out (by omega) (by unfold maxLen; omega) hz.out ?_; intro v' w2 hown hg _; have HW2 := Lib.hid hown; have HG := Lib.hid hg; clear hown hg)
      all_goals
        refine ⟨⟨j + 1, by omega, by rw [Int.natCast_succ], ?_, ?_⟩, by simp [intOf]; omega⟩
        · rw [HB0.out, List.map_append]; exact HW2.out
        · exact own_base (HW.out.alloc _) HG.out (HBB.out.alloc HBB.out.size _) hz.out (Nat.le_refl _)
    · obtain rfl : j = n := by omega
      go_wp2
      go_ret
      exact ⟨_, rfl, HW.out, HBB.out⟩
end Go.Proofs.YtkogjjeoihnjpaaGreat
end
section
set_option linter.unusedVariables false
namespace Go.Proofs.YtkogjjeoihnjpaaGreat
open Go.ChangeShapes Go.WideShapes Go.RowKit Go.Deep

/-- a slice's cells: so many values, in a block that is there -/
def IsRow (w : World) (a : Option Addr) (len : Nat) (V : Nat → Value) : Prop := 0 < len → ∃ b o, a = some ⟨b, o, none⟩ ∧ b < w.heap.size ∧ ∀ i, i < len → w.cell? ⟨b, o + i, none⟩ = some (V i)
theorem IsRow.le {w : World} {a : Option Addr} {len len' : Nat} {V : Nat → Value} (h : IsRow w a len V) (hl : len' ≤ len) : IsRow w a len' V := by
  intro h0
  obtain ⟨b, o, h1, h2, h3⟩ := h (by omega)
  exact ⟨b, o, h1, h2, fun i hi => h3 i (by omega)⟩
/-- what a slice that came in is: its length and capacity, and its cells up to the capacity -/
structure ArgRow (w : World) (a : Option Addr) (len cap : Nat) (V : Nat → Value) : Prop where
  le : len ≤ cap
  max : cap ≤ 9223372036854775807
  nil : a = none → cap = 0
  form : a = none ∨ ∃ b o, a = some ⟨b, o, none⟩ ∧ b < w.heap.size
  row : IsRow w a cap V
theorem slice_form {P : Program} {W : World} {base : Nat} {t e : TypeId} (ht : P.underlying t = some (.slice e)) {a : Option Addr} {len cap : Nat} (h : Value.okWide P W .any base t (.slice a len cap)) : a = none ∨ ∃ b o, a = some ⟨b, o, none⟩ ∧ b < W.heap.size := by
  simp only [Value.okWide, ht, Cell.okWide] at h
  rcases a with _ | ⟨b, o, s⟩
  · exact .inl rfl
  · right
    simp only [Cell.ok, ht] at h
    obtain ⟨_, _, _, hs, r, c, hsh, _⟩ := h
    simp only at hs
    subst hs
    refine ⟨b, o, rfl, ?_⟩
    unfold World.shape? at hsh
    split at hsh
    · rename_i hh
      exact (Array.getElem?_eq_some_iff.1 hh).1
    · cases hsh
/-- how many elements a datum has -/
def DatumHas {H : Type} (d : DataW H) (cap : Nat) : Prop := (d = .nil ∧ cap = 0) ∨ ∃ elems spare, d = .slice elems spare ∧ elems.length + spare.length = cap
theorem row_of_cells {w : World} {a : Addr} {n : Nat} {V : Nat → Value} (h : ∀ i, i < n → w.cell? (a.add i) = some (V i)) : IsRow w (some a) n V := by
  intro hn
  obtain ⟨b, o, s⟩ := a
  have h0 := h 0 hn
  have hs : s = none := by
    unfold Addr.add at h0
    simp only [if_true] at h0
    unfold World.cell? at h0
    split at h0
    · cases s <;> simp_all
    · cases h0
  subst hs
  have hadd : ∀ i, (⟨b, o, none⟩ : Addr).add i = ⟨b, o + i, none⟩ := fun i => by unfold Addr.add; split <;> simp_all
  refine ⟨b, o, rfl, ?_, fun i hi => by rw [← hadd]; exact h i hi⟩
  exact World.block_lt_of_cell? w _ ((hadd 0) ▸ h0)
section
variable {H : Type} {enc : TypeId × Value → H} {P : Program} {W : World}
theorem arg_ints {t e : TypeId} {k : IntKind} (ht : P.underlying t = some (.slice e)) (he : P.underlying e = some (.int k)) (hc : P.cellsOf e = 1) {a : Option Addr} {len cap : Nat} {d : DataW H} {p : List MemPlace} {b0 : Nat} (hv : Value.okWide P W .any b0 t (.slice a len cap))
    (h : DataW.Trod enc P W 0 (fun _ => true) true t (.slice a len cap) d p) :
    ∃ z : Nat → Int, (∀ i, (Lit.int k (z i)).wf = true) ∧ ArgRow W a len cap (fun i => .int k (z i)) ∧ DatumHas d cap := by
  have hform := slice_form ht hv
  obtain ⟨fuel, hf⟩ := h
  have hw0 : (Lit.int k 0).wf = true := by cases k <;> decide
  rcases open_ints ht he hc hf with ⟨hcs, hx⟩ | ⟨ad, len', cap', zs, hcs, _, hl, hm, hz, hx, hcell, hwz⟩
  · simp [Value.cells] at hcs
    obtain ⟨rfl, rfl, rfl⟩ := hcs
    simp only [Prod.mk.injEq] at hx
    exact ⟨fun _ => 0, fun _ => hw0, ⟨Nat.le_refl _, by omega, fun _ => rfl, hform, fun h => absurd h (by omega)⟩, .inl ⟨hx.1, rfl⟩⟩
  · simp [Value.cells] at hcs
    obtain ⟨rfl, rfl, rfl⟩ := hcs
    simp only [Prod.mk.injEq] at hx
    simp only [if_true] at hz
    refine ⟨fun i => zs.getD i 0, fun i => ?_, ⟨hl, hm, (fun h => nomatch h), hform, row_of_cells fun i hi => hcell i (by omega)⟩, .inr ⟨_, _, hx.1, ?_⟩⟩
    · by_cases hi : i < zs.length
      · have e : zs.getD i 0 = zs[i] := by simp [List.getD, hi]
        simp only [e]; exact hwz _ (List.getElem_mem hi)
      · have e : zs.getD i 0 = 0 := by simp [List.getD, hi]
        simp only [e]; exact hw0
    · simp [lits]; omega
theorem arg_bools {t e : TypeId} (ht : P.underlying t = some (.slice e)) (he : P.underlying e = some .bool) (hc : P.cellsOf e = 1) {a : Option Addr} {len cap : Nat} {d : DataW H} {p : List MemPlace} {b0 : Nat} (hv : Value.okWide P W .any b0 t (.slice a len cap))
    (h : DataW.Trod enc P W 0 (fun _ => true) true t (.slice a len cap) d p) :
    ∃ z : Nat → Bool, ArgRow W a len cap (fun i => .bool (z i)) ∧ DatumHas d cap := by
  have hform := slice_form ht hv
  obtain ⟨fuel, hf⟩ := h
  rcases open_bools ht he hc hf with ⟨hcs, hx⟩ | ⟨ad, len', cap', z, hcs, _, hl, hm, hx, hcell⟩
  · simp [Value.cells] at hcs
    obtain ⟨rfl, rfl, rfl⟩ := hcs
    simp only [Prod.mk.injEq] at hx
    exact ⟨fun _ => false, ⟨Nat.le_refl _, by omega, fun _ => rfl, hform, fun h => absurd h (by omega)⟩, .inl ⟨hx.1, rfl⟩⟩
  · simp [Value.cells] at hcs
    obtain ⟨rfl, rfl, rfl⟩ := hcs
    simp only [Prod.mk.injEq] at hx
    refine ⟨z, ⟨hl, hm, (fun h => nomatch h), hform, row_of_cells fun i hi => hcell i hi⟩, .inr ⟨_, _, hx.1, ?_⟩⟩
    simp; omega
/-- the form's reach -/
theorem arg_size {ts : List TypeId} {ds : List (DataW H)} (h : (DataW.weightsEach P ts ds).all (· ≤ reachBytes) = true) {j : Nat} {t e : TypeId} {d : DataW H} {cap : Nat} (ht : ts[j]? = some t) (hd : ds[j]? = some d) (hu : P.underlying t = some (.slice e)) (hh : DatumHas d cap) (b : Nat) (hb : P.bytesOf e = b) :
    cap * b ≤ 140737488351232 := by
  rcases hh with ⟨rfl, rfl⟩ | ⟨el, sp, rfl, rfl⟩
  · omega
  · have := sized_slice h ht hd hu
    rw [hb] at this
    exact this
end
end Go.Proofs.YtkogjjeoihnjpaaGreat
end
