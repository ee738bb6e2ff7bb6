/- The PLIC as a call that made it sees it; its law-s first test. No condition. Memory as data: the pages' blocks, the map that leads to them, and what the bytes are (no walk). No condition. Contracts of Ram.get, set, all, New. No condition. What lies where: pma.find and what leans on it. No condition. Contracts of pma.Region, Cached, Offset. No condition. Contracts of Ram.all, New, Pages, Read. No condition. Contracts of ram.New, Pages, Read. No condition. -/
import Derived.Test.YtefcdbpmpnmkjaaPack1
import Derived.StillTailTactics
import Derived.BigRegion
import Derived.Deep.RegionWith
import Derived.Deep.QuietTactic
import Derived.BigQuiet
import Derived.Deep.LoopGhost
import Derived.Deep.DeepCutAuto
import Derived.Deep.DeepFit
import Derived.Deep.DeepMust
import Derived.Maps.OwnOps
import Derived.Maps.RangeWalk
import Derived.Maps.Views
import Derived.Maps.Ext
import Derived.Deep.RegionHeld3
import Derived.Handy
section
set_option linter.unusedVariables false
set_option linter.unusedSimpArgs false
namespace Go.Proofs.Ytefcdbpmpnmkjaa
open Go.RowKit
def dev0 : Dev := ⟨false, 0, 0, fun _ => 0, 0, 0, fun _ => 0, fun _ => 0, 0, none, 0, 0, none, 0, 0, 0, false⟩
theorem dev0_ok : dev0.Ok := ⟨fun _ _ => Nat.two_pow_pos 32, Nat.two_pow_pos 32, Nat.two_pow_pos 32, fun _ _ => Nat.two_pow_pos 32, fun _ _ => Nat.two_pow_pos 32⟩
theorem plicSet_below {w w' : World} {b : Nat} {d : Dev} (h : PlicSet w b d w') {B : Nat} {W : World} (hb : Below B W w) (hB : B ≤ w.heap.size) (hbb : B ≤ b) : Below B W w' := grown_below hb h.2 hB hbb
/-- a PLIC stands at block b, one of the call's own; nothing that was there has turned -/
structure PlicHere (W : World) (b : Nat) (d : Dev) (w : World) : Prop where
  at_ : PlicAt w b d
  ok : d.Ok
  ge : W.heap.size ≤ b
  below : Below W.heap.size W w
theorem PlicHere.set {W w w' : World} {b : Nat} {d d' : Dev} (h : PlicHere W b d w) (hs : PlicSet w b d' w') (hd : d'.Ok) : PlicHere W b d' w' := ⟨hs.1, hd, h.ge, plicSet_below hs h.below h.below.size h.ge⟩
theorem PlicHere.drewN {W w : World} {b : Nat} {d : Dev} (h : PlicHere W b d w) (n : Nat) : PlicHere W b d (w.drewN n) := ⟨h.at_, h.ok, h.ge, below_drewN h.below n⟩
theorem PlicHere.keep {W w w' : World} {b : Nat} {d : Dev} (h : PlicHere W b d w) (hb : Below w.heap.size w w') : PlicHere W b d w' := ⟨blk_below hb (blk_lt h.at_) h.at_, h.ok, h.ge, below_then h.below hb h.below.size⟩
theorem PlicHere.new (W : World) : PlicHere W W.heap.size dev0 (W.alloc (.cells dev0.cells 104)) := ⟨blk_alloc _ _, dev0_ok, Nat.le_refl _, (Below.refl _ _).alloc (Nat.le_refl _) _⟩

/-- the contracts, of a PLIC of the call's own -/
theorem here_write {W w : World} {b : Nat} {d : Dev} (h : PlicHere W b d w) (off size v : Int) (v0 : 0 ≤ v) (v1 : v < 18446744073709551616) :
    Calls Try.prog 90 #[.pointer (some ⟨b, 0, none⟩), .int .u64 off, .int .i64 size, .int .u64 v] w fun e w' => e = .returned (.int .i64 (d.write off size v.toNat).1) ∧ PlicHere W b (d.write off size v.toNat).2 w' := by
  obtain ⟨n, rfl⟩ := Int.eq_ofNat_of_zero_le v0
  exact (plic_write_any d h.ok off size n (by omega) b w h.at_).mono fun e w' hh => ⟨hh.1, h.set hh.2 (d.write_ok h.ok _ _ _)⟩
theorem here_read {W w : World} {b : Nat} {d : Dev} (h : PlicHere W b d w) (off size : Int) :
    Calls Try.prog 89 #[.pointer (some ⟨b, 0, none⟩), .int .u64 off, .int .i64 size] w fun e w' => e = .returned (.tuple #[.int .u64 ((d.read off size).1 : Nat), .int .i64 (d.read off size).2.1]) ∧ PlicHere W b (d.read off size).2.2 w' :=
  (plic_read_any d h.ok off size b w h.at_).mono fun e w' hh => ⟨hh.1, h.set hh.2 (d.read_ok h.ok _ _).1⟩
theorem here_tick {W w : World} {b : Nat} {d : Dev} (h : PlicHere W b d w) (l : Int) (l0 : 0 ≤ l) (l1 : l < 4294967296) :
    Calls Try.prog 35 #[.pointer (some ⟨b, 0, none⟩), .int .u32 l] w fun e w' => e = .returned (.tuple #[]) ∧ PlicHere W b (d.tick l.toNat) w' := by
  obtain ⟨n, rfl⟩ := Int.eq_ofNat_of_zero_le l0
  exact (plic_tick d h.ok b n (by omega) w h.at_).mono fun e w' hh => ⟨hh.1, h.set hh.2 (d.tick_ok _ h.ok (by omega))⟩
theorem here_lines {W w : World} {b : Nat} {d : Dev} (h : PlicHere W b d w) :
    Calls Try.prog 38 #[.pointer (some ⟨b, 0, none⟩)] w fun e w' => e = .returned (.int .u64 (d.lns : Nat)) ∧ PlicHere W b d w' :=
  (plic_lines d h.ok b w h.at_).mono fun e w' ⟨h1, n, h2⟩ => ⟨h1, by rw [h2]; exact h.drewN n⟩
theorem here_best {W w : World} {b : Nat} {d : Dev} (h : PlicHere W b d w) (c : Int) (c0 : 0 ≤ c) (c1 : c < 2) :
    Calls Try.prog 62 #[.pointer (some ⟨b, 0, none⟩), .int .i64 c] w fun e w' => e = .returned (.int .i64 (d.best c.toNat)) ∧ PlicHere W b d w' := by
  obtain ⟨n, rfl⟩ := Int.eq_ofNat_of_zero_le c0
  exact (plic_best d h.ok b n (by omega) w h.at_).mono fun e w' ⟨h1, n, h2⟩ => ⟨h1, by rw [h2]; exact h.drewN n⟩
end Go.Proofs.Ytefcdbpmpnmkjaa
end
section
set_option linter.unusedVariables false
set_option linter.unusedSimpArgs false
namespace Go.Proofs.Ytefcdbpmpnmkjaa
open Go.RowKit

/-! ### worlds of which only some blocks have turned -/
/-- what was there is as it was, but for the blocks of S -/
structure Turned (S : Nat → Prop) (w w' : World) : Prop where
  os : w'.os = w.os
  tape : w'.tape = w.tape
  output : w'.output = w.output
  size : w.heap.size ≤ w'.heap.size
  block : ∀ g, g < w.heap.size → ¬ S g → w'.heap[g]? = w.heap[g]?
theorem Turned.refl (S : Nat → Prop) (w : World) : Turned S w w := ⟨rfl, rfl, rfl, Nat.le_refl _, fun _ _ _ => rfl⟩
theorem Turned.trans {S S' : Nat → Prop} {a b c : World} (h : Turned S a b) (k : Turned S' b c) (hs : ∀ g, S' g → S g ∨ a.heap.size ≤ g) : Turned S a c :=
  ⟨k.os.trans h.os, k.tape.trans h.tape, k.output.trans h.output, Nat.le_trans h.size k.size, fun g hg hn => (k.block g (Nat.lt_of_lt_of_le hg h.size) (fun e => by
    rcases hs g e with e | e
    · exact hn e
    · omega)).trans (h.block g hg hn)⟩
theorem Turned.mono {S S' : Nat → Prop} {a b : World} (h : Turned S a b) (hs : ∀ g, S g → S' g) : Turned S' a b := ⟨h.os, h.tape, h.output, h.size, fun g hg hn => h.block g hg (fun e => hn (hs g e))⟩
theorem Turned.below {S : Nat → Prop} {a b : World} (h : Turned S a b) {B : Nat} (hB : B ≤ a.heap.size) (hs : ∀ g, S g → B ≤ g) : Below B a b :=
  ⟨h.os, h.tape, h.output, h.size, fun g hg => h.block g (by omega) (fun e => by have := hs g e; omega)⟩
theorem Turned.of_below {a b : World} (h : Below a.heap.size a b) (S : Nat → Prop) : Turned S a b := ⟨h.os, h.tape, h.output, h.size, fun g hg _ => h.block g hg⟩
theorem Turned.of_grown {a b : World} {g : Nat} (h : a.grownBy b (some g)) : Turned (· = g) a b := ⟨h.os, h.tape, h.output, h.size, fun k hk hn => h.block k hk (fun e => hn (Option.some.inj e))⟩
theorem Turned.drew {S : Nat → Prop} {a b : World} (h : Turned S a b) : Turned S a b.drew := ⟨h.os, h.tape, h.output, h.size, h.block⟩
theorem Turned.alloc {S : Nat → Prop} {a b : World} (h : Turned S a b) (o : Obj) : Turned S a (b.alloc o) := h.trans (S' := fun _ => False) (.of_below ((Below.refl _ _).alloc (Nat.le_refl _) o) _) (fun _ e => e.elim)
theorem Turned.keep {S : Nat → Prop} {a b : World} (h : Turned S a b) {g : Nat} {o : Obj} (hn : ¬ S g) (ho : a.heap[g]? = some o) : b.heap[g]? = some o := (h.block g (blk_lt ho) hn).trans ho
theorem Turned.set {S : Nat → Prop} {a b : World} (h : Turned S a b) {g : Nat} (hg : S g ∨ a.heap.size ≤ g) (o : Nat) (v : Value) : Turned S a (b.setCell ⟨g, o, none⟩ v) :=
  h.trans (S' := (· = g)) ⟨rfl, rfl, rfl, by simp [World.setCell], fun k _ hk => Below.heap_setCell _ _ _ _ (by simpa using hk)⟩ (by rintro _ rfl; exact hg)

/-! ### the page's map -/
/-- a page's place in the map: its block's number, -1 where there is none -/
def pgR (v : Value) : Option (DataW Unit × List MemPlace) :=
  match v with
  | .pointer (some ⟨g, 0, none⟩) => some (.lit (.int .i64 g), [])
  | .pointer none => some (.lit (.int .i64 (-1)), [])
  | _ => none
def pgV : Option Nat → Value | none => .pointer none | some g => .pointer (some ⟨g, 0, none⟩)
def pgI : Option Nat → Int | none => -1 | some g => g
theorem pgR_V (p : Option Nat) : pgR (pgV p) = some (.lit (.int .i64 (pgI p)), []) := by cases p <;> rfl
theorem pgR_inj {v : Value} {i : Int} {ps : List MemPlace} (h : pgR v = some (.lit (.int .i64 i), ps)) : ∃ p, v = pgV p ∧ i = pgI p := by
  unfold pgR at h
  split at h
  · cases h; exact ⟨some _, rfl, rfl⟩
  · cases h; exact ⟨none, rfl, rfl⟩
  · cases h
theorem pgI_inj {p q : Option Nat} (h : pgI p = pgI q) : p = q := by
  cases p <;> cases q <;> simp [pgI] at h ⊢ <;> omega
theorem pgI_nonneg (p : Option Nat) : (-1 : Int) ≤ pgI p := by cases p <;> simp [pgI] <;> omega
theorem keyI : Go.Maps.Keyed Try.prog 3 := Go.Maps.int_keyed Try.underlying3
def keyL (k : Nat) : Lit := .int .i64 k
theorem keyL_inj {k k' : Nat} (h : keyL k = keyL k') : k = k' := by unfold keyL at h; injection h with _ h; omega
theorem keyOf_nat {k : Nat} (h : k < 9223372036854775808) : keyOf Try.prog 3 (.int .i64 k) = some (keyL k) :=
  Go.Maps.keyOf_int_mk Try.underlying3 (by simp [Lit.wf, IntKind.min, IntKind.max, IntKind.signed, IntKind.bits]; omega)
/-- how many of the pages below n are there -/
def pgCount (pg : Nat → Option Nat) : Nat → Nat
  | 0 => 0
  | n + 1 => pgCount pg n + if (pg n).isSome then 1 else 0
theorem pgCount_le (pg : Nat → Option Nat) (n : Nat) : pgCount pg n ≤ n := by
  induction n with
  | zero => simp [pgCount]
  | succ n ih => unfold pgCount; split <;> omega
def pgSet (pg : Nat → Option Nat) (k g : Nat) : Nat → Option Nat := fun j => if j = k then some g else pg j
theorem pgCount_set_ge (pg : Nat → Option Nat) (k g n : Nat) (h : n ≤ k) : pgCount (pgSet pg k g) n = pgCount pg n := by
  induction n with
  | zero => rfl
  | succ n ih =>
    unfold pgCount
    rw [ih (by omega)]
    have : pgSet pg k g n = pg n := by unfold pgSet; rw [if_neg (by omega)]
    rw [this]
theorem pgCount_set (pg : Nat → Option Nat) (k g n : Nat) (h : k < n) (hn : pg k = none) : pgCount (pgSet pg k g) n = pgCount pg n + 1 := by
  induction n with
  | zero => omega
  | succ n ih =>
    unfold pgCount
    by_cases hk : k = n
    · subst hk
      rw [pgCount_set_ge _ _ _ _ (Nat.le_refl _), hn]
      simp [pgSet]
    · have : pgSet pg k g n = pg n := by unfold pgSet; rw [if_neg (by omega)]
      rw [ih (by omega), this]
      omega
/-- block m is the map of these pages -/
structure PgMap (w : World) (m : Nat) (pg : Nat → Option Nat) (D : DataW Unit) : Prop where
  own : w.ownsMap Try.prog 3 pgR m (pgCount pg 256) D
  isMap : Go.Maps.IsMap D
  get : ∀ k, D.atKey (keyL k) (.lit (.int .i64 (-1))) = .lit (.int .i64 (pgI (pg k)))
  has : ∀ kl, Go.Maps.has D kl = true → ∃ k, kl = keyL k ∧ k < 256 ∧ (pg k).isSome = true
theorem PgMap.new (w : World) : PgMap (w.alloc (.map #[] 0)) w.heap.size (fun _ => none) (.map []) := by
  refine ⟨(World.ownsMap_made w Try.prog 3 pgR).mono (Nat.zero_le _), Go.Maps.isMap_empty, fun k => rfl, fun kl h => ?_⟩
  cases h
theorem PgMap.kept {w w' : World} {m : Nat} {pg : Nat → Option Nat} {D : DataW Unit} (h : PgMap w m pg D) (hb : w'.heap[m]? = w.heap[m]?) : PgMap w' m pg D := by
  refine ⟨?_, h.isMap, h.get, h.has⟩
  obtain ⟨es, clock, h1, h2⟩ := h.own
  exact ⟨es, clock, hb.trans h1, h2⟩
theorem pg_zero (w : World) : (zeroValue 124).run Try.prog w = .ok (.pointer none) w := by kernel_rfl
theorem PgMap.lookup {w : World} {m : Nat} {pg : Nat → Option Nat} {D : DataW Unit} (h : PgMap w m pg D) {k : Nat} (hk : k < 256) :
    (Instr.lookup 115 (.map (some m)) (.int .i64 k) false).run Try.prog w = .ok (pgV (pg k)) w := by
  obtain ⟨v, ps, hrun, hv⟩ := h.own.lookup keyI Try.underlying115 (pg_zero w) (pgR_V none) (keyOf_nat (k := k) (by omega))
  have hg : D.atKey (keyL k) (.lit (.int .i64 (pgI none))) = .lit (.int .i64 (pgI (pg k))) := h.get k
  rw [hg] at hv
  obtain ⟨p, rfl, hp⟩ := pgR_inj hv
  rw [pgI_inj hp]
  exact hrun
theorem keyL_key (k : Nat) : Go.WideAt.IsKeyLit (keyL k) := trivial
/-- what the map is with page k put in -/
theorem PgMap.put {w w' : World} {m : Nat} {pg : Nat → Option Nat} {D : DataW Unit} (h : PgMap w m pg D) {k : Nat} (hk : k < 256) (hn : pg k = none) (g : Nat)
    (hown : w'.ownsMap Try.prog 3 pgR m (pgCount pg 256 + 1) (D.put (keyL k) (.lit (.int .i64 (pgI (some g)))))) : PgMap w' m (pgSet pg k g) (D.put (keyL k) (.lit (.int .i64 (pgI (some g))))) := by
  refine ⟨by rw [pgCount_set pg k g 256 hk hn]; exact hown, h.isMap.put _ _, fun j => ?_, fun kl hkl => ?_⟩
  · by_cases hj : j = k
    · subst hj
      rw [Go.Maps.atKey_put_same h.isMap (keyL_key j)]
      simp [pgSet]
    · rw [Go.Maps.atKey_put_other (fun e => hj (keyL_inj e)), h.get j]
      simp [pgSet, hj]
  · by_cases hj : kl = keyL k
    · exact ⟨k, hj, hk, by simp [pgSet]⟩
    · rw [Go.Maps.has_put_other hj] at hkl
      obtain ⟨j, rfl, h1, h2⟩ := h.has kl hkl
      exact ⟨j, rfl, h1, by unfold pgSet; split <;> simp_all⟩

/-! ### the bytes -/
set_option maxRecDepth 100000
def pageArr (f : Nat → Nat) : Array Value := ((List.range 4096).map fun j => Value.int .u8 (f j)).toArray
theorem pageArr_get (f : Nat → Nat) (j : Nat) (h : j < 4096) : (pageArr f)[j]? = some (.int .u8 (f j)) := by
  unfold pageArr
  simp [h]
theorem pageArr_size (f : Nat → Nat) : (pageArr f).size = 4096 := by simp [pageArr]
theorem pageArr_congr {f g : Nat → Nat} (h : ∀ j, j < 4096 → f j = g j) : pageArr f = pageArr g := by
  unfold pageArr
  congr 1
  apply List.map_congr_left
  intro j hj
  rw [h j (List.mem_range.1 hj)]
def updB (ct : Nat → Nat) (i v : Nat) : Nat → Nat := fun j => if j = i then v else ct j
theorem pageArr_set (f : Nat → Nat) (j v : Nat) (h : j < 4096) : (pageArr f).setIfInBounds j (.int .u8 v) = pageArr (updB f j v) := by
  apply Array.ext_getElem?
  intro i
  rw [Array.getElem?_setIfInBounds]
  by_cases hi : i < 4096
  · rw [pageArr_get (updB f j v) _ hi]
    by_cases e : j = i
    · subst e
      rw [if_pos rfl, if_pos (by rw [pageArr_size]; exact hi)]
      simp [updB]
    · rw [if_neg e, pageArr_get _ _ hi]
      have : updB f j v i = f i := by unfold updB; rw [if_neg (by omega)]
      rw [this]
  · have h1 : (pageArr f)[i]? = none := by rw [Array.getElem?_eq_none]; rw [pageArr_size]; omega
    have h2 : (pageArr (updB f j v))[i]? = none := by rw [Array.getElem?_eq_none]; rw [pageArr_size]; omega
    rw [h1, h2]
    split
    · rw [if_neg (by rw [pageArr_size]; omega)]
    · rfl
theorem pageArr_zero : madeCells #[(.int .u8 0)] 4096 = pageArr fun _ => 0 := by
  unfold madeCells pageArr
  apply Array.ext'
  simp [Array.toList_range]
  intro a ha
  simp [Nat.mod_one]

/-- block b is a memory of n pages; m, pg: its map and its pages; ct: what its bytes are -/
structure RamIs (w : World) (b m n : Nat) (pg : Nat → Option Nat) (ct : Nat → Nat) : Prop where
  at_ : w.heap[b]? = some (.cells #[.int .i64 n, .map (some m)] 117 (0, 0))
  lo : 4 ≤ n
  hi : n ≤ 256
  map : ∃ D, PgMap w m pg D
  page : ∀ k g, pg k = some g → w.heap[g]? = some (.cells (pageArr fun j => ct (4096 * k + j)) 126 (0, 0))
  zero : ∀ k, pg k = none → ∀ j, j < 4096 → ct (4096 * k + j) = 0
  inj : ∀ k k' g, pg k = some g → pg k' = some g → k = k'
  bd : ∀ i, ct i < 256
  small : ∀ k, (pg k).isSome = true → k < 256
/-- the blocks that a memory may turn -/
def RamOwn (m : Nat) (pg : Nat → Option Nat) (g : Nat) : Prop := g = m ∨ ∃ k, pg k = some g
/-- the same, the map and pages untold: S is the blocks that it may turn -/
def RamAt (w : World) (b n : Nat) (ct : Nat → Nat) (S : Nat → Prop) : Prop := ∃ m pg, RamIs w b m n pg ct ∧ S = RamOwn m pg
theorem RamIs.map_lt {w : World} {b m n : Nat} {pg : Nat → Option Nat} {ct : Nat → Nat} (h : RamIs w b m n pg ct) : m < w.heap.size := by
  obtain ⟨D, hD⟩ := h.map
  exact hD.own.lt
theorem RamIs.map_is {w : World} {b m n : Nat} {pg : Nat → Option Nat} {ct : Nat → Nat} (h : RamIs w b m n pg ct) : ∃ es c, w.heap[m]? = some (.map es c) := by
  obtain ⟨D, hD⟩ := h.map
  obtain ⟨es, c, h1, _⟩ := hD.own
  exact ⟨es, c, h1⟩
/-- it lies in blocks that are there -/
theorem RamAt.lt {w : World} {b n : Nat} {ct : Nat → Nat} {S : Nat → Prop} (h : RamAt w b n ct S) {g : Nat} (hg : S g) : g < w.heap.size := by
  obtain ⟨m, pg, h, rfl⟩ := h
  rcases hg with rfl | ⟨k, hk⟩
  · exact h.map_lt
  · exact blk_lt (h.page k g hk)
theorem RamAt.self {w : World} {b n : Nat} {ct : Nat → Nat} {S : Nat → Prop} (h : RamAt w b n ct S) : ¬ S b ∧ b < w.heap.size := by
  obtain ⟨m, pg, h, rfl⟩ := h
  refine ⟨?_, blk_lt h.at_⟩
  rintro (rfl | ⟨k, hk⟩)
  · obtain ⟨es, c, hm⟩ := h.map_is
    rw [h.at_] at hm
    cases hm
  · have h1 := h.page k b hk
    rw [h.at_] at h1
    injection h1 with h1
    injection h1 with h1
    have := congrArg Array.size h1
    rw [pageArr_size] at this
    simp at this
/-- what turns none of its blocks leaves it -/
theorem RamIs.keep {w w' : World} {b m n : Nat} {pg : Nat → Option Nat} {ct : Nat → Nat} (h : RamIs w b m n pg ct) (hb : ∀ g, g = b ∨ RamOwn m pg g → w'.heap[g]? = w.heap[g]?) : RamIs w' b m n pg ct := by
  refine ⟨(hb b (.inl rfl)).trans h.at_, h.lo, h.hi, ?_, fun k g hk => (hb g (.inr (.inr ⟨k, hk⟩))).trans (h.page k g hk), h.zero, h.inj, h.bd, h.small⟩
  obtain ⟨D, hD⟩ := h.map
  exact ⟨D, hD.kept (hb m (.inr (.inl rfl)))⟩
theorem RamAt.turned {w w' : World} {b n : Nat} {ct : Nat → Nat} {S T : Nat → Prop} (h : RamAt w b n ct S) (ht : Turned T w w') (hb : ¬ T b) (hd : ∀ g, S g → ¬ T g) : RamAt w' b n ct S := by
  have hlt := fun g (hg : S g) => h.lt hg
  have hself := h.self
  obtain ⟨m, pg, h, rfl⟩ := h
  refine ⟨m, pg, h.keep ?_, rfl⟩
  rintro g (rfl | hg)
  · exact ht.block _ hself.2 hb
  · exact ht.block _ (hlt g hg) (hd g hg)
theorem RamAt.below {w w' : World} {b n : Nat} {ct : Nat → Nat} {S : Nat → Prop} (h : RamAt w b n ct S) (hb : Below w.heap.size w w') : RamAt w' b n ct S :=
  h.turned (T := fun _ => False) (.of_below hb _) (fun e => e) (fun _ _ e => e)
theorem RamAt.ext {w : World} {b n : Nat} {ct ct' : Nat → Nat} {S : Nat → Prop} (h : RamAt w b n ct S) (he : ∀ i, ct i = ct' i) : RamAt w b n ct' S := by
  obtain rfl : ct = ct' := funext he
  exact h
end Go.Proofs.Ytefcdbpmpnmkjaa
end
section
set_option linter.unusedVariables false
set_option linter.unusedSimpArgs false
namespace Go.Proofs.Ytefcdbpmpnmkjaa
open Go.RowKit
set_option maxRecDepth 100000 in
set_option maxHeartbeats 1000000 in
theorem ram_get {w : World} {b m n : Nat} {pg : Nat → Option Nat} {ct : Nat → Nat} (h : RamIs w b m n pg ct) (x : Int) (x0 : 0 ≤ x) (x1 : x < 1048576) :
    Calls Try.prog 69 #[.pointer (some ⟨b, 0, none⟩), .int .i64 x] w fun e w' => e = .returned (.int .u8 (ct x.toNat)) ∧ w = w' := by
  obtain ⟨k, hk⟩ := Int.eq_ofNat_of_zero_le (show 0 ≤ x / 4096 by omega)
  obtain ⟨j, hj⟩ := Int.eq_ofNat_of_zero_le (show 0 ≤ x % 4096 by omega)
  have hk2 : (k : Int) < 256 := by omega
  have hj2 : (j : Int) < 4096 := by omega
  have hx : Hid (x.toNat = 4096 * k + j) := by show _ = _; omega
  obtain ⟨D, hD⟩ := h.map
  have hl := hD.lookup (k := k) (by omega)
  have c0 : w.cell? ⟨b, 1, none⟩ = some (.map (some m)) := blk_cell h.at_ 1
  have HK := Lib.hid hk; have HJ := Lib.hid hj
  rcases hp : pg k with _ | g
  · have hz : Hid (ct x.toNat = 0) := by show _ = _; rw [hx.out]; exact h.zero k hp j (by omega)
    rw [hp] at hl
    simp only [pgV] at hl
    clear h hD hp
    go_enter Try.func69, Try.ntmps69
    go_wp2
    go_ret
    exact ⟨ret_int (by rw [hz.out]; rfl), rfl⟩
  · have hc : w.cell? ⟨g, j, none⟩ = some (.int .u8 (ct (4096 * k + j))) := (blk_cell (h.page k g hp) j).trans (pageArr_get _ _ (by omega))
    rw [hp] at hl
    simp only [pgV] at hl
    clear h hD hp
    go_enter Try.func69, Try.ntmps69
    go_wp2
    go_ret
    exact ⟨ret_int (by rw [hx.out]), rfl⟩
/-- the memory with other bytes: in its own blocks and in new ones -/
def RamTo (w w' : World) (b n : Nat) (ct : Nat → Nat) (S : Nat → Prop) : Prop := ∃ S', RamAt w' b n ct S' ∧ Turned S w w' ∧ ∀ g, S' g → S g ∨ w.heap.size ≤ g
theorem set_old {w : World} {b m n : Nat} {pg : Nat → Option Nat} {ct : Nat → Nat} (h : RamIs w b m n pg ct) {k j g : Nat} (hp : pg k = some g) (hj : j < 4096) (v : Nat) (hv : v < 256) :
    RamTo w (w.setCell ⟨g, j, none⟩ (.int .u8 v)) b n (updB ct (4096 * k + j) v) (RamOwn m pg) := by
  have hs := RamAt.self ⟨m, pg, h, rfl⟩
  have hgb : g ≠ b := by rintro rfl; exact hs.1 (.inr ⟨k, hp⟩)
  have hgm : g ≠ m := by
    rintro rfl
    obtain ⟨es, c, hm⟩ := h.map_is
    rw [h.page k g hp] at hm
    cases hm
  refine ⟨RamOwn m pg, ⟨m, pg, ⟨(blk_set_ne _ _ hgb).trans h.at_, h.lo, h.hi, ?_, fun k' g' hk' => ?_, fun k' hk' j' hj' => ?_, h.inj, fun i => ?_, h.small⟩, rfl⟩, ?_, fun _ => .inl⟩
  · obtain ⟨D, hD⟩ := h.map
    exact ⟨D, hD.kept (blk_set_ne _ _ hgm)⟩
  · by_cases e : g' = g
    · subst e
      obtain rfl := h.inj k k' g' hp hk'
      rw [blk_set (h.page k g' hp), pageArr_set _ _ _ hj]
      refine congrArg (fun c => some (Obj.cells c _ _)) (pageArr_congr fun i hi => ?_)
      unfold updB
      by_cases hij : i = j
      · subst hij; simp
      · rw [if_neg hij, if_neg (by omega)]
    · rw [blk_set_ne _ _ (fun h => e h.symm), h.page k' g' hk']
      refine congrArg (fun c => some (Obj.cells c _ _)) (pageArr_congr fun i hi => ?_)
      unfold updB
      rw [if_neg]
      intro hx
      have : k' = k := by omega
      subst this
      rw [hp] at hk'
      exact e (Option.some.inj hk').symm
  · unfold updB
    rw [if_neg]
    · exact h.zero k' hk' j' hj'
    · intro hx
      have : k' = k := by omega
      subst this
      rw [hp] at hk'
      cases hk'
  · unfold updB
    split
    · exact hv
    · exact h.bd i
  · exact (Turned.refl _ w).set (.inl (.inr ⟨k, hp⟩)) _ _
theorem set_new {w : World} {b m n : Nat} {pg : Nat → Option Nat} {ct : Nat → Nat} (h : RamIs w b m n pg ct) {k j : Nat} (hp : pg k = none) (hk : k < 256) (hj : j < 4096) (v : Nat) (hv : v < 256) {o : Obj} (ho : o = .cells (pageArr fun _ => 0) 126)
    {w1 : World} {D : DataW Unit} (hm : PgMap w1 m (pgSet pg k w.heap.size) D) (hg : (w.alloc o).grownBy w1 (some m)) :
    RamTo w (w1.setCell ⟨w.heap.size, j, none⟩ (.int .u8 v)) b n (updB ct (4096 * k + j) v) (RamOwn m pg) := by
  subst ho
  have hs := RamAt.self ⟨m, pg, h, rfl⟩
  have hlt : ∀ g, RamOwn m pg g → g < w.heap.size := fun g hg => RamAt.lt ⟨m, pg, h, rfl⟩ hg
  have hmg : m < w.heap.size := hlt m (.inl rfl)
  have hbm : b ≠ m := by rintro rfl; exact hs.1 (.inl rfl)
  have hold : ∀ g, g < w.heap.size → g ≠ m → (w1.setCell ⟨w.heap.size, j, none⟩ (.int .u8 v)).heap[g]? = w.heap[g]? := fun g hg1 hg2 => by
    rw [blk_set_ne _ _ (by simp; omega), hg.block g (by simp; omega) (by simpa using hg2), blk_alloc_old _ _ _ hg1]
  have hnew : w1.heap[w.heap.size]? = some (.cells (pageArr fun _ => 0) 126 (0, 0)) := by
    rw [hg.block w.heap.size (by simp) (by simp; omega), blk_alloc]
  refine ⟨RamOwn m (pgSet pg k w.heap.size), ⟨m, pgSet pg k w.heap.size, ⟨(hold b hs.2 hbm).trans h.at_, h.lo, h.hi, ⟨D, hm.kept (blk_set_ne _ _ (by simp; omega))⟩, fun k' g' hk' => ?_, fun k' hk' j' hj' => ?_, fun k1 k2 g' h1 h2 => ?_, fun i => ?_, fun k' hk' => ?_⟩, rfl⟩, ?_, ?_⟩
  · unfold pgSet at hk'
    by_cases e : k' = k
    · subst e
      rw [if_pos rfl] at hk'
      obtain rfl := Option.some.inj hk'
      rw [blk_set hnew, pageArr_set _ _ _ hj]
      refine congrArg (fun c => some (Obj.cells c _ _)) (pageArr_congr fun i hi => ?_)
      unfold updB
      by_cases hij : i = j
      · subst hij; simp
      · rw [if_neg hij, if_neg (by omega), h.zero k' hp i hi]
    · rw [if_neg e] at hk'
      have hgm : g' ≠ m := by
        rintro rfl
        obtain ⟨es, c, hm⟩ := h.map_is
        rw [h.page k' g' hk'] at hm
        cases hm
      rw [hold g' (hlt g' (.inr ⟨k', hk'⟩)) hgm, h.page k' g' hk']
      refine congrArg (fun c => some (Obj.cells c _ _)) (pageArr_congr fun i hi => ?_)
      unfold updB
      rw [if_neg (by omega)]
  · unfold pgSet at hk'
    by_cases e : k' = k
    · rw [if_pos e] at hk'; cases hk'
    · rw [if_neg e] at hk'
      unfold updB
      rw [if_neg (by omega)]
      exact h.zero k' hk' j' hj'
  · unfold pgSet at h1 h2
    by_cases e1 : k1 = k <;> by_cases e2 : k2 = k
    · rw [e1, e2]
    · rw [if_pos e1] at h1; rw [if_neg e2] at h2
      have := hlt g' (.inr ⟨k2, h2⟩)
      have := Option.some.inj h1
      omega
    · rw [if_neg e1] at h1; rw [if_pos e2] at h2
      have := hlt g' (.inr ⟨k1, h1⟩)
      have := Option.some.inj h2
      omega
    · rw [if_neg e1] at h1; rw [if_neg e2] at h2
      exact h.inj k1 k2 g' h1 h2
  · unfold updB
    split
    · exact hv
    · exact h.bd i
  · unfold pgSet at hk'
    by_cases e : k' = k
    · rw [e]; exact hk
    · rw [if_neg e] at hk'; exact h.small k' hk'
  · exact (((Turned.refl (RamOwn m pg) w).alloc (.cells (pageArr fun _ => 0) 126)).trans (Turned.of_grown hg) (by rintro _ rfl; exact .inl (.inl rfl))).set (.inr (Nat.le_refl _)) _ _
  · rintro g (rfl | ⟨k', hk'⟩)
    · exact .inl (.inl rfl)
    · unfold pgSet at hk'
      by_cases e : k' = k
      · rw [if_pos e] at hk'
        right
        have := Option.some.inj hk'
        omega
      · rw [if_neg e] at hk'
        exact .inl (.inr ⟨k', hk'⟩)
theorem zero_page : Try.zeroCells126 = pageArr fun _ => 0 := by kernel_rfl
theorem new_page {w w1 : World} {m j : Nat} (hg : (w.alloc (.cells Try.zeroCells126 126)).grownBy w1 (some m)) (hj : j < 4096) (hm : m < w.heap.size) : w1.cell? ⟨w.heap.size, j, none⟩ = some (.int .u8 0) ∧ w1.frozen? ⟨w.heap.size, j, none⟩ = false := by
  have hnew : w1.heap[w.heap.size]? = some (.cells (pageArr fun _ => 0) 126 (0, 0)) := by
    rw [hg.block w.heap.size (by simp) (by simp; omega), blk_alloc, zero_page]
  exact ⟨(blk_cell hnew j).trans (pageArr_get _ _ hj), blk_frozen hnew j⟩
set_option maxRecDepth 100000 in
set_option maxHeartbeats 1000000 in
theorem ram_set {w : World} {b m n : Nat} {pg : Nat → Option Nat} {ct : Nat → Nat} (h : RamIs w b m n pg ct) (x : Int) (x0 : 0 ≤ x) (x1 : x < 1048576) (v : Nat) (hv : v < 256) :
    Calls Try.prog 66 #[.pointer (some ⟨b, 0, none⟩), .int .i64 x, .int .u8 v] w fun e w' => e = .returned (.tuple #[]) ∧ RamTo w w' b n (updB ct x.toNat v) (RamOwn m pg) := by
  obtain ⟨k, hk⟩ := Int.eq_ofNat_of_zero_le (show 0 ≤ x / 4096 by omega)
  obtain ⟨j, hj⟩ := Int.eq_ofNat_of_zero_le (show 0 ≤ x % 4096 by omega)
  have hk2 : (k : Int) < 256 := by omega
  have hj2 : (j : Int) < 4096 := by omega
  have hx : Hid (x.toNat = 4096 * k + j) := by show _ = _; omega
  obtain ⟨D, hD⟩ := h.map
  have hl := hD.lookup (k := k) (by omega)
  have c0 : w.cell? ⟨b, 1, none⟩ = some (.map (some m)) := blk_cell h.at_ 1
  have HV := Lib.hid hv
  clear hv
  rcases hp : pg k with _ | g
  · rw [hp] at hl
    simp only [pgV] at hl
    have HH := Lib.hid h
    have HP := Lib.hid hp
    have HD := Lib.hid hD
    clear h hD hp
    go_enter Try.func66, Try.ntmps66
    have HKEY : Hid (keyOf Try.prog 3 (.int .i64 (x / 4096)) = some (keyL k)) := by show _ = _; rw [hk]; exact keyOf_nat (by omega)
    have hbl : b < w.heap.size := (RamAt.self ⟨m, pg, HH.out, rfl⟩).2
    go_wp2_with (at_mapUpdate; refine wpList_mapUpdate_own _ rfl _ _ _ 115 rfl 3 124 keyI Try.underlying115 pgR m (pgCount pg 256) D rfl (HD.out.own.alloc _) (Nat.lt_of_le_of_lt (pgCount_le pg 256) (by decide)) _ _ (keyL k) rfl rfl HKEY.out _ [] (pgR_V (some w.heap.size)) ?_; intro w1 hown1 hgrow1; have HN := Lib.hid (new_page hgrow1 (j := j) (by omega) HD.out.own.lt); have cN := HN.out.1; have fN := HN.out.2; have HS := Lib.hid (set_new (j := j) HH.out HP.out (by omega) (by omega) v HV.out (by rw [zero_page]) (HD.out.put (by omega) HP.out w.heap.size hown1) hgrow1); clear hown1 hgrow1 HD HH HKEY)
    go_end0
    exact ⟨rfl, by rw [hx.out]; exact HS.out⟩
  · have hc : w.cell? ⟨g, j, none⟩ = some (.int .u8 (ct (4096 * k + j))) := (blk_cell (h.page k g hp) j).trans (pageArr_get _ _ (by omega))
    have hf : w.frozen? ⟨g, j, none⟩ = false := blk_frozen (h.page k g hp) j
    have HS : Hid (RamTo w (w.setCell ⟨g, j, none⟩ (.int .u8 v)) b n (updB ct x.toNat v) (RamOwn m pg)) := by show RamTo _ _ _ _ _ _; rw [hx.out]; exact set_old h hp (by omega) v HV.out
    rw [hp] at hl
    simp only [pgV] at hl
    clear h hD hp
    go_enter Try.func66, Try.ntmps66
    go_wp2
    go_end0
    exact ⟨rfl, HS.out⟩
end Go.Proofs.Ytefcdbpmpnmkjaa
end
section
set_option linter.unusedVariables false
set_option linter.unusedSimpArgs false
namespace Go.Proofs.Ytefcdbpmpnmkjaa
open Go.RowKit
/-- the region of an address: its kind, base and size, and how far the address is above its base -/
def pmaFind (n : Nat) (x : Int) : Int × Int × Int × Int :=
  if 4096 ≤ x ∧ x < 8192 then (1, 4096, 4096, x - 4096) else if 33554432 ≤ x ∧ x < 33619968 then (2, 33554432, 65536, x - 33554432)
  else if 201326592 ≤ x ∧ x < 205520896 then (3, 201326592, 4194304, x - 201326592) else if 268435456 ≤ x ∧ x < 268439552 then (4, 268435456, 4096, x - 268435456)
  else if 2147483648 ≤ x ∧ x < 2147483648 + n * 4096 then (5, 2147483648, n * 4096, x - 2147483648) else (0, 0, 0, 0)
set_option maxRecDepth 100000 in
set_option maxHeartbeats 1000000 in
theorem pma_regions (n : Nat) (h4 : 4 ≤ n) (h256 : n ≤ 256) (w : World) :
    Calls Try.prog 68 #[.int .i64 n] w fun e w' => e = .returned (.slice (some ⟨w.heap.size, 0, none⟩) 5 5) ∧ w' = w.alloc (.cells #[.int .i64 1, .int .u64 4096, .int .u64 4096, .int .i64 2, .int .u64 33554432, .int .u64 65536, .int .i64 3, .int .u64 201326592, .int .u64 4194304, .int .i64 4, .int .u64 268435456, .int .u64 4096, .int .i64 5, .int .u64 2147483648, .int .u64 ((n : Int) * 4096)] 112) := by
  go_enter Try.func68, Try.ntmps68
  go_wp2
  go_ret
  exact ⟨rfl, rfl⟩
def FindIs (n : Nat) (x : Int) (w : World) (e : Ending) (w' : World) : Prop := e = .returned (.tuple #[.agg #[.int .i64 (pmaFind n x).1, .int .u64 (pmaFind n x).2.1, .int .u64 (pmaFind n x).2.2.1], .int .u64 (pmaFind n x).2.2.2]) ∧ Below w.heap.size w w'
theorem FindIs.of {n : Nat} {x : Int} {w : World} {e : Ending} {w' : World} (k b s o : Int) (hp : Hid (pmaFind n x = (k, b, s, o))) (he : e = .returned (.tuple #[.agg #[.int .i64 k, .int .u64 b, .int .u64 s], .int .u64 o])) (hb : Below w.heap.size w w') : FindIs n x w e w' := by
  unfold FindIs
  rw [hp.out]
  exact ⟨he, hb⟩

set_option maxRecDepth 100000 in
set_option maxHeartbeats 4000000 in
theorem pma_find_r1 (n : Nat) (h4 : 4 ≤ n) (h256 : n ≤ 256) (x : Int) (h0 : 4096 ≤ x) (h1 : x < 8192) (w : World) :
    Calls Try.prog 59 #[.int .i64 n, .int .u64 x] w (FindIs n x w) := by
  have hp := Lib.hid (show pmaFind n x = (1, 4096, 4096, x - 4096) by unfold pmaFind; repeat (first | rfl | rw [if_pos (by omega)] | rw [if_neg (by omega)]))
  go_enter Try.func59, Try.ntmps59
  go_wp2_with fail
  refine (pma_regions n h4 h256 _).mono ?_
  rintro e w1 ⟨rfl, rfl⟩
  go_wp2_with fail
  go_rounds 6
  all_goals (try go_region)
  all_goals (try go_wp2_with fail)
  all_goals exact bodyPost_ret (v := .tuple #[.agg #[.int .i64 (1), .int .u64 (4096), .int .u64 (4096)], .int .u64 (x - 4096)]) (by simp [results, Try.results59, go_sem]) rfl (FindIs.of _ _ _ _ hp rfl (by go_grown))


set_option maxRecDepth 100000 in
set_option maxHeartbeats 4000000 in
theorem pma_find_r2 (n : Nat) (h4 : 4 ≤ n) (h256 : n ≤ 256) (x : Int) (h0 : 33554432 ≤ x) (h1 : x < 33619968) (w : World) :
    Calls Try.prog 59 #[.int .i64 n, .int .u64 x] w (FindIs n x w) := by
  have hp := Lib.hid (show pmaFind n x = (2, 33554432, 65536, x - 33554432) by unfold pmaFind; repeat (first | rfl | rw [if_pos (by omega)] | rw [if_neg (by omega)]))
  go_enter Try.func59, Try.ntmps59
  go_wp2_with fail
  refine (pma_regions n h4 h256 _).mono ?_
  rintro e w1 ⟨rfl, rfl⟩
  go_wp2_with fail
  go_rounds 6
  all_goals (try go_region)
  all_goals (try go_wp2_with fail)
  all_goals exact bodyPost_ret (v := .tuple #[.agg #[.int .i64 (2), .int .u64 (33554432), .int .u64 (65536)], .int .u64 (x - 33554432)]) (by simp [results, Try.results59, go_sem]) rfl (FindIs.of _ _ _ _ hp rfl (by go_grown))


set_option maxRecDepth 100000 in
set_option maxHeartbeats 4000000 in
theorem pma_find_r3 (n : Nat) (h4 : 4 ≤ n) (h256 : n ≤ 256) (x : Int) (h0 : 201326592 ≤ x) (h1 : x < 205520896) (w : World) :
    Calls Try.prog 59 #[.int .i64 n, .int .u64 x] w (FindIs n x w) := by
  have hp := Lib.hid (show pmaFind n x = (3, 201326592, 4194304, x - 201326592) by unfold pmaFind; repeat (first | rfl | rw [if_pos (by omega)] | rw [if_neg (by omega)]))
  go_enter Try.func59, Try.ntmps59
  go_wp2_with fail
  refine (pma_regions n h4 h256 _).mono ?_
  rintro e w1 ⟨rfl, rfl⟩
  go_wp2_with fail
  go_rounds 6
  all_goals (try go_region)
  all_goals (try go_wp2_with fail)
  all_goals exact bodyPost_ret (v := .tuple #[.agg #[.int .i64 (3), .int .u64 (201326592), .int .u64 (4194304)], .int .u64 (x - 201326592)]) (by simp [results, Try.results59, go_sem]) rfl (FindIs.of _ _ _ _ hp rfl (by go_grown))


set_option maxRecDepth 100000 in
set_option maxHeartbeats 4000000 in
theorem pma_find_r4 (n : Nat) (h4 : 4 ≤ n) (h256 : n ≤ 256) (x : Int) (h0 : 268435456 ≤ x) (h1 : x < 268439552) (w : World) :
    Calls Try.prog 59 #[.int .i64 n, .int .u64 x] w (FindIs n x w) := by
  have hp := Lib.hid (show pmaFind n x = (4, 268435456, 4096, x - 268435456) by unfold pmaFind; repeat (first | rfl | rw [if_pos (by omega)] | rw [if_neg (by omega)]))
  go_enter Try.func59, Try.ntmps59
  go_wp2_with fail
  refine (pma_regions n h4 h256 _).mono ?_
  rintro e w1 ⟨rfl, rfl⟩
  go_wp2_with fail
  go_rounds 6
  all_goals (try go_region)
  all_goals (try go_wp2_with fail)
  all_goals exact bodyPost_ret (v := .tuple #[.agg #[.int .i64 (4), .int .u64 (268435456), .int .u64 (4096)], .int .u64 (x - 268435456)]) (by simp [results, Try.results59, go_sem]) rfl (FindIs.of _ _ _ _ hp rfl (by go_grown))


set_option maxRecDepth 100000 in
set_option maxHeartbeats 4000000 in
theorem pma_find_ram (n : Nat) (h4 : 4 ≤ n) (h256 : n ≤ 256) (x : Int) (h0 : 2147483648 ≤ x) (h1 : x < 2147483648 + n * 4096) (w : World) :
    Calls Try.prog 59 #[.int .i64 n, .int .u64 x] w (FindIs n x w) := by
  have hp := Lib.hid (show pmaFind n x = (5, 2147483648, (n : Int) * 4096, x - 2147483648) by unfold pmaFind; repeat (first | rfl | rw [if_pos (by omega)] | rw [if_neg (by omega)]))
  go_enter Try.func59, Try.ntmps59
  go_wp2_with fail
  refine (pma_regions n h4 h256 _).mono ?_
  rintro e w1 ⟨rfl, rfl⟩
  go_wp2_with fail
  go_rounds 6
  all_goals (try go_region)
  all_goals (try go_wp2_with fail)
  all_goals exact bodyPost_ret (v := .tuple #[.agg #[.int .i64 (5), .int .u64 (2147483648), .int .u64 ((n : Int) * 4096)], .int .u64 (x - 2147483648)]) (by simp [results, Try.results59, go_sem]) rfl (FindIs.of _ _ _ _ hp rfl (by go_grown))


set_option maxRecDepth 100000 in
set_option maxHeartbeats 4000000 in
theorem pma_find_g1 (n : Nat) (h4 : 4 ≤ n) (h256 : n ≤ 256) (x : Int) (h0 : 0 ≤ x) (h1 : x < 4096) (w : World) :
    Calls Try.prog 59 #[.int .i64 n, .int .u64 x] w (FindIs n x w) := by
  have hp := Lib.hid (show pmaFind n x = (0, 0, 0, 0) by unfold pmaFind; repeat (first | rfl | rw [if_pos (by omega)] | rw [if_neg (by omega)]))
  go_enter Try.func59, Try.ntmps59
  go_wp2_with fail
  refine (pma_regions n h4 h256 _).mono ?_
  rintro e w1 ⟨rfl, rfl⟩
  go_wp2_with fail
  go_rounds 6
  all_goals (try go_region)
  all_goals (try go_wp2_with fail)
  all_goals exact bodyPost_ret (v := .tuple #[.agg #[.int .i64 (0), .int .u64 (0), .int .u64 (0)], .int .u64 (0)]) (by simp [results, Try.results59, go_sem]) rfl (FindIs.of _ _ _ _ hp rfl (by go_grown))


set_option maxRecDepth 100000 in
set_option maxHeartbeats 4000000 in
theorem pma_find_g2 (n : Nat) (h4 : 4 ≤ n) (h256 : n ≤ 256) (x : Int) (h0 : 8192 ≤ x) (h1 : x < 33554432) (w : World) :
    Calls Try.prog 59 #[.int .i64 n, .int .u64 x] w (FindIs n x w) := by
  have hp := Lib.hid (show pmaFind n x = (0, 0, 0, 0) by unfold pmaFind; repeat (first | rfl | rw [if_pos (by omega)] | rw [if_neg (by omega)]))
  go_enter Try.func59, Try.ntmps59
  go_wp2_with fail
  refine (pma_regions n h4 h256 _).mono ?_
  rintro e w1 ⟨rfl, rfl⟩
  go_wp2_with fail
  go_rounds 6
  all_goals (try go_region)
  all_goals (try go_wp2_with fail)
  all_goals exact bodyPost_ret (v := .tuple #[.agg #[.int .i64 (0), .int .u64 (0), .int .u64 (0)], .int .u64 (0)]) (by simp [results, Try.results59, go_sem]) rfl (FindIs.of _ _ _ _ hp rfl (by go_grown))


set_option maxRecDepth 100000 in
set_option maxHeartbeats 4000000 in
theorem pma_find_g3 (n : Nat) (h4 : 4 ≤ n) (h256 : n ≤ 256) (x : Int) (h0 : 33619968 ≤ x) (h1 : x < 201326592) (w : World) :
    Calls Try.prog 59 #[.int .i64 n, .int .u64 x] w (FindIs n x w) := by
  have hp := Lib.hid (show pmaFind n x = (0, 0, 0, 0) by unfold pmaFind; repeat (first | rfl | rw [if_pos (by omega)] | rw [if_neg (by omega)]))
  go_enter Try.func59, Try.ntmps59
  go_wp2_with fail
  refine (pma_regions n h4 h256 _).mono ?_
  rintro e w1 ⟨rfl, rfl⟩
  go_wp2_with fail
  go_rounds 6
  all_goals (try go_region)
  all_goals (try go_wp2_with fail)
  all_goals exact bodyPost_ret (v := .tuple #[.agg #[.int .i64 (0), .int .u64 (0), .int .u64 (0)], .int .u64 (0)]) (by simp [results, Try.results59, go_sem]) rfl (FindIs.of _ _ _ _ hp rfl (by go_grown))


set_option maxRecDepth 100000 in
set_option maxHeartbeats 4000000 in
theorem pma_find_g4 (n : Nat) (h4 : 4 ≤ n) (h256 : n ≤ 256) (x : Int) (h0 : 205520896 ≤ x) (h1 : x < 268435456) (w : World) :
    Calls Try.prog 59 #[.int .i64 n, .int .u64 x] w (FindIs n x w) := by
  have hp := Lib.hid (show pmaFind n x = (0, 0, 0, 0) by unfold pmaFind; repeat (first | rfl | rw [if_pos (by omega)] | rw [if_neg (by omega)]))
  go_enter Try.func59, Try.ntmps59
  go_wp2_with fail
  refine (pma_regions n h4 h256 _).mono ?_
  rintro e w1 ⟨rfl, rfl⟩
  go_wp2_with fail
  go_rounds 6
  all_goals (try go_region)
  all_goals (try go_wp2_with fail)
  all_goals exact bodyPost_ret (v := .tuple #[.agg #[.int .i64 (0), .int .u64 (0), .int .u64 (0)], .int .u64 (0)]) (by simp [results, Try.results59, go_sem]) rfl (FindIs.of _ _ _ _ hp rfl (by go_grown))


set_option maxRecDepth 100000 in
set_option maxHeartbeats 4000000 in
theorem pma_find_g5 (n : Nat) (h4 : 4 ≤ n) (h256 : n ≤ 256) (x : Int) (h0 : 268439552 ≤ x) (h1 : x < 2147483648) (w : World) :
    Calls Try.prog 59 #[.int .i64 n, .int .u64 x] w (FindIs n x w) := by
  have hp := Lib.hid (show pmaFind n x = (0, 0, 0, 0) by unfold pmaFind; repeat (first | rfl | rw [if_pos (by omega)] | rw [if_neg (by omega)]))
  go_enter Try.func59, Try.ntmps59
  go_wp2_with fail
  refine (pma_regions n h4 h256 _).mono ?_
  rintro e w1 ⟨rfl, rfl⟩
  go_wp2_with fail
  go_rounds 6
  all_goals (try go_region)
  all_goals (try go_wp2_with fail)
  all_goals exact bodyPost_ret (v := .tuple #[.agg #[.int .i64 (0), .int .u64 (0), .int .u64 (0)], .int .u64 (0)]) (by simp [results, Try.results59, go_sem]) rfl (FindIs.of _ _ _ _ hp rfl (by go_grown))


set_option maxRecDepth 100000 in
set_option maxHeartbeats 4000000 in
theorem pma_find_g6 (n : Nat) (h4 : 4 ≤ n) (h256 : n ≤ 256) (x : Int) (h0 : 2147483648 + n * 4096 ≤ x) (h1 : x < 18446744073709551616) (w : World) :
    Calls Try.prog 59 #[.int .i64 n, .int .u64 x] w (FindIs n x w) := by
  have hp := Lib.hid (show pmaFind n x = (0, 0, 0, 0) by unfold pmaFind; repeat (first | rfl | rw [if_pos (by omega)] | rw [if_neg (by omega)]))
  go_enter Try.func59, Try.ntmps59
  go_wp2_with fail
  refine (pma_regions n h4 h256 _).mono ?_
  rintro e w1 ⟨rfl, rfl⟩
  go_wp2_with fail
  go_rounds 6
  all_goals (try go_region)
  all_goals (try go_wp2_with fail)
  all_goals exact bodyPost_ret (v := .tuple #[.agg #[.int .i64 (0), .int .u64 (0), .int .u64 (0)], .int .u64 (0)]) (by simp [results, Try.results59, go_sem]) rfl (FindIs.of _ _ _ _ hp rfl (by go_grown))

theorem pma_find (n : Nat) (h4 : 4 ≤ n) (h256 : n ≤ 256) (x : Int) (h0 : 0 ≤ x) (h1 : x < 18446744073709551616) (w : World) : Calls Try.prog 59 #[.int .i64 n, .int .u64 x] w (FindIs n x w) := by
  by_cases a1 : x < 4096; exact pma_find_g1 n h4 h256 x h0 a1 w
  by_cases a2 : x < 8192; exact pma_find_r1 n h4 h256 x (by omega) a2 w
  by_cases a3 : x < 33554432; exact pma_find_g2 n h4 h256 x (by omega) a3 w
  by_cases a4 : x < 33619968; exact pma_find_r2 n h4 h256 x (by omega) a4 w
  by_cases a5 : x < 201326592; exact pma_find_g3 n h4 h256 x (by omega) a5 w
  by_cases a6 : x < 205520896; exact pma_find_r3 n h4 h256 x (by omega) a6 w
  by_cases a7 : x < 268435456; exact pma_find_g4 n h4 h256 x (by omega) a7 w
  by_cases a8 : x < 268439552; exact pma_find_r4 n h4 h256 x (by omega) a8 w
  by_cases a9 : x < 2147483648; exact pma_find_g5 n h4 h256 x (by omega) a9 w
  by_cases b1 : x < 2147483648 + n * 4096; exact pma_find_ram n h4 h256 x (by omega) b1 w
  exact pma_find_g6 n h4 h256 x (by omega) h1 w
end Go.Proofs.Ytefcdbpmpnmkjaa
end
section
set_option linter.unusedVariables false
set_option linter.unusedSimpArgs false
namespace Go.Proofs.Ytefcdbpmpnmkjaa
open Go.RowKit
set_option maxRecDepth 100000 in
set_option maxHeartbeats 1000000 in
theorem pma_region (n : Nat) (h4 : 4 ≤ n) (h256 : n ≤ 256) (x : Int) (h0 : 0 ≤ x) (h1 : x < 18446744073709551616) (w : World) :
    Calls Try.prog 28 #[.int .i64 n, .int .u64 x] w fun e w' => e = .returned (.int .i64 (pmaFind n x).1) ∧ Below w.heap.size w w' := by
  have F := Lib.hid (pma_find n h4 h256 x h0 h1)
  clear h0 h1
  generalize hk : pmaFind n x = K at *
  have HK := Lib.hid hk
  clear hk
  go_enter Try.func28, Try.ntmps28
  go_wp2_with fail
  refine (F.out _).mono ?_
  rintro e w1 ⟨rfl, hb⟩
  rw [HK.out]
  have HB := Lib.hid hb
  clear hb
  go_wp2_with fail
  go_ret
  exact ⟨rfl, by have := HB.out; have hs := HB.out.size; go_grown⟩
set_option maxRecDepth 100000 in
set_option maxHeartbeats 1000000 in
theorem pma_offset (n : Nat) (h4 : 4 ≤ n) (h256 : n ≤ 256) (x : Int) (h0 : 0 ≤ x) (h1 : x < 18446744073709551616) (w : World) :
    Calls Try.prog 30 #[.int .i64 n, .int .u64 x] w fun e w' => e = .returned (.int .u64 (pmaFind n x).2.2.2) ∧ Below w.heap.size w w' := by
  have F := Lib.hid (pma_find n h4 h256 x h0 h1)
  clear h0 h1
  generalize hk : pmaFind n x = K at *
  have HK := Lib.hid hk
  clear hk
  go_enter Try.func30, Try.ntmps30
  go_wp2_with fail
  refine (F.out _).mono ?_
  rintro e w1 ⟨rfl, hb⟩
  rw [HK.out]
  have HB := Lib.hid hb
  clear hb
  go_wp2_with fail
  go_ret
  exact ⟨rfl, by have := HB.out; have hs := HB.out.size; go_grown⟩
/-- an address of memory -/
def isRam (n : Nat) (x : Int) : Bool := decide (2147483648 ≤ x ∧ x < 2147483648 + n * 4096)
theorem isRam_find (n : Nat) (x : Int) : decide ((pmaFind n x).1 = 5) = isRam n x := by
  unfold pmaFind isRam
  repeat' split
  all_goals simp
  all_goals omega
theorem isRam_off (n : Nat) (x : Int) (h : isRam n x = true) : (pmaFind n x).2.2.2 = x - 2147483648 := by
  unfold isRam at h
  simp only [decide_eq_true_eq] at h
  unfold pmaFind
  repeat (first | rfl | rw [if_pos (by omega)] | rw [if_neg (by omega)])
set_option maxRecDepth 100000 in
set_option maxHeartbeats 1000000 in
theorem pma_cached (n : Nat) (h4 : 4 ≤ n) (h256 : n ≤ 256) (x : Int) (h0 : 0 ≤ x) (h1 : x < 18446744073709551616) (w : World) :
    Calls Try.prog 70 #[.int .i64 n, .int .u64 x] w fun e w' => e = .returned (.bool (isRam n x)) ∧ Below w.heap.size w w' := by
  have F := Lib.hid (pma_region n h4 h256 x h0 h1)
  clear h0 h1
  have HK := Lib.hid (isRam_find n x)
  generalize (pmaFind n x).1 = K at *
  generalize isRam n x = R at *
  go_enter Try.func70, Try.ntmps70
  go_wp2_with fail
  refine (F.out _).mono ?_
  rintro e w1 ⟨rfl, hb⟩
  have HB := Lib.hid hb
  clear hb
  go_wp2_with fail
  go_ret
  exact ⟨ret_bool (by rw [← HK.out]; first | rfl | (simp; done) | (by_cases h : K = 5 <;> simp [h])), HB.out⟩
end Go.Proofs.Ytefcdbpmpnmkjaa
end
section
set_option linter.unusedVariables false
set_option linter.unusedSimpArgs false
namespace Go.Proofs.Ytefcdbpmpnmkjaa
open Go.RowKit
/-- are so many bytes from there on memory? -/
def ramAll (n : Nat) (x : Int) (m : Int) : Bool := decide (m = 0) || (isRam n x && decide (x - 2147483648 + m ≤ n * 4096))
set_option maxRecDepth 100000 in
set_option maxHeartbeats 16000000 in
theorem ram_all {w : World} {b m n : Nat} {pg : Nat → Option Nat} {ct : Nat → Nat} (h : RamIs w b m n pg ct) (x : Int) (x0 : 0 ≤ x) (x1 : x < 18446744073709551616) (k : Int) (k0 : 0 ≤ k) (k1 : k < 9223372036854775808) :
    Calls Try.prog 65 #[.pointer (some ⟨b, 0, none⟩), .int .u64 x, .int .i64 k] w fun e w' => e = .returned (.bool (ramAll n x k)) ∧ Below w.heap.size w w' := by
  have c0 : w.cell? ⟨b, 0, none⟩ = some (.int .i64 n) := blk_cell h.at_ 0
  have hbl : b < w.heap.size := (RamAt.self ⟨m, pg, h, rfl⟩).2
  have h4 := h.lo; have h256 := h.hi
  have HC := Lib.hid (pma_cached n h4 h256 x x0 x1)
  have HO := Lib.hid (pma_offset n h4 h256 x x0 x1)
  have HX := Lib.hid (show isRam n x = true → (pmaFind n x).2.2.2 = x - 2147483648 ∧ 2147483648 ≤ x ∧ x < 2147483648 + n * 4096 from fun hh => ⟨isRam_off n x hh, by simpa [isRam] using hh⟩)
  have H4 := Lib.hid h4
  have hn4 : (4 : Int) ≤ n := by omega
  have hn256 : (n : Int) ≤ 256 := by omega
  clear h h4 h256
  by_cases hk : k = 0
  · subst hk
    have HA : Hid (ramAll n x 0 = true) := rfl
    go_enter Try.func65, Try.ntmps65
    go_wp2
    go_ret
    exact ⟨ret_bool HA.out.symm, Below.refl _ _⟩
  cases hr : isRam n x with
  | false =>
    have HA : Hid (ramAll n x k = false) := by show _ = _; unfold ramAll; rw [hr]; simp [hk]
    rw [hr] at HC
    go_enter Try.func65, Try.ntmps65
    go_wp2_with fail
    refine wp_region_held_drew (S := fun w' => w'.cell? ⟨b, 0, none⟩ = some (.int .i64 n) ∧ Below w.heap.size w w') (by kernel_rfl) ⟨c0, (Below.refl _ _).drew⟩ (fun hH => ?_)
    refine wpAnyH_take (i := 0) (oi := ⟨some 9, _, _, _, _, _⟩) (v := ?_) rfl (by kernel_rfl) (by kernel_rfl) (by kernel_rfl) (fun _ _ _ h => h) (Or.inl ⟨by kernel_rfl, ?_⟩) hH ?_
    rotate_left 1
    · intro wq hq; have hq1 := hq.1; first | (go_simp; done) | (go_simp; with_reducible rfl)
    simp only [Act.put, List.setIfInBounds_toArray, List.set_cons_zero, List.set_cons_succ]
    refine wpAnyH_take (i := 1) (oi := ⟨some 10, _, _, _, _, _⟩) (v := ?_) rfl (by kernel_rfl) (by kernel_rfl) (by kernel_rfl) (fun _ _ _ h => h) (Or.inl ⟨by kernel_rfl, ?_⟩) hH ?_
    rotate_left 1
    · intro wq hq; have hq1 := hq.1; first | (go_simp; done) | (go_simp; with_reducible rfl)
    simp only [Act.put, List.setIfInBounds_toArray, List.set_cons_zero, List.set_cons_succ]
    refine wpAnyH_take (i := 2) (oi := ⟨some 11, _, _, _, _, _⟩) (v := ?_) rfl (by kernel_rfl) (by kernel_rfl) (by kernel_rfl) (fun _ _ _ h => h) (Or.inl ⟨by kernel_rfl, ?_⟩) hH ?_
    rotate_left 1
    · intro wq hq; have hq1 := hq.1; first | (go_simp; done) | (go_simp; with_reducible rfl)
    simp only [Act.put, List.setIfInBounds_toArray, List.set_cons_zero, List.set_cons_succ]
    refine wpAnyH_take (i := 3) (oi := ⟨some 12, _, _, _, _, _⟩) (v := ?_) rfl (by kernel_rfl) (by kernel_rfl) (by kernel_rfl) (fun _ _ _ h => h) (Or.inl ⟨by kernel_rfl, ?_⟩) hH ?_
    rotate_left 1
    · intro wq hq; have hq1 := hq.1; first | (go_simp; done) | (go_simp; with_reducible rfl)
    simp only [Act.put, List.setIfInBounds_toArray, List.set_cons_zero, List.set_cons_succ]
    refine wpAnyH_take (i := 4) (oi := ⟨some 13, _, _, _, _, _⟩) (v := ?_) rfl (by kernel_rfl) (by kernel_rfl) (by kernel_rfl) (fun _ _ _ h => h) (Or.inl ⟨by kernel_rfl, ?_⟩) hH ?_
    rotate_left 1
    · intro wq hq; have hq1 := hq.1; first | (go_simp; done) | (go_simp; with_reducible rfl)
    simp only [Act.put, List.setIfInBounds_toArray, List.set_cons_zero, List.set_cons_succ]
    refine wpAnyH_ready (rs := [5]) (by kernel_rfl) (by simp) (AllReadyH.cons (o := ⟨some 14, _, _, _, _, _⟩) rfl (fun K hK => ?_) AllReadyH.nil)
    go_simp
    refine (HC.out _).mono ?_
    rintro e w1 ⟨rfl, hb1⟩
    go_wp2_with fail
    refine hK.out _ _ ?_ (fun hH => ?_)
    · have hs := hH.2.size; exact ⟨(hb1.cell (p := ⟨b, 0, none⟩) (by first | omega | (simp; omega))).trans hH.1, below_then hH.2 hb1 hH.2.size⟩
    clear hK K
    try simp only [Act.put, List.setIfInBounds_toArray, List.set_cons_zero, List.set_cons_succ]
    refine wpAnyH_take (i := 6) (oi := ⟨some 15, _, _, _, _, _⟩) (v := ?_) rfl (by kernel_rfl) (by kernel_rfl) (by kernel_rfl) (fun _ _ _ h => h) (Or.inl ⟨by kernel_rfl, ?_⟩) hH ?_
    rotate_left 1
    · intro wq hq; have hq1 := hq.1; first | (go_simp; done) | (go_simp; with_reducible rfl)
    simp only [Act.put, List.setIfInBounds_toArray, List.set_cons_zero, List.set_cons_succ]
    refine wpAnyH_take (i := 7) (oi := ⟨some 16, _, _, _, _, _⟩) (v := undef) rfl (by kernel_rfl) (by kernel_rfl) (by kernel_rfl) (fun _ _ _ h => h) (Or.inr ⟨by kernel_rfl, rfl⟩) hH ?_
    simp only [Act.put, List.setIfInBounds_toArray, List.set_cons_zero, List.set_cons_succ]
    refine wpAnyH_take (i := 8) (oi := ⟨some 17, _, _, _, _, _⟩) (v := undef) rfl (by kernel_rfl) (by kernel_rfl) (by kernel_rfl) (fun _ _ _ h => h) (Or.inr ⟨by kernel_rfl, rfl⟩) hH ?_
    simp only [Act.put, List.setIfInBounds_toArray, List.set_cons_zero, List.set_cons_succ]
    refine wpAnyH_take (i := 9) (oi := ⟨some 18, _, _, _, _, _⟩) (v := undef) rfl (by kernel_rfl) (by kernel_rfl) (by kernel_rfl) (fun _ _ _ h => h) (Or.inr ⟨by kernel_rfl, rfl⟩) hH ?_
    simp only [Act.put, List.setIfInBounds_toArray, List.set_cons_zero, List.set_cons_succ]
    refine wpAnyH_take (i := 10) (oi := ⟨some 19, _, _, _, _, _⟩) (v := undef) rfl (by kernel_rfl) (by kernel_rfl) (by kernel_rfl) (fun _ _ _ h => h) (Or.inr ⟨by kernel_rfl, rfl⟩) hH ?_
    simp only [Act.put, List.setIfInBounds_toArray, List.set_cons_zero, List.set_cons_succ]
    refine wpAnyH_take (i := 11) (oi := ⟨some 20, _, _, _, _, _⟩) (v := undef) rfl (by kernel_rfl) (by kernel_rfl) (by kernel_rfl) (fun _ _ _ h => h) (Or.inr ⟨by kernel_rfl, rfl⟩) hH ?_
    simp only [Act.put, List.setIfInBounds_toArray, List.set_cons_zero, List.set_cons_succ]
    refine wpAnyH_take (i := 12) (oi := ⟨some 21, _, _, _, _, _⟩) (v := undef) rfl (by kernel_rfl) (by kernel_rfl) (by kernel_rfl) (fun _ _ _ h => h) (Or.inr ⟨by kernel_rfl, rfl⟩) hH ?_
    simp only [Act.put, List.setIfInBounds_toArray, List.set_cons_zero, List.set_cons_succ]
    refine wpAnyH_take (i := 13) (oi := ⟨some 22, _, _, _, _, _⟩) (v := undef) rfl (by kernel_rfl) (by kernel_rfl) (by kernel_rfl) (fun _ _ _ h => h) (Or.inr ⟨by kernel_rfl, rfl⟩) hH ?_
    simp only [Act.put, List.setIfInBounds_toArray, List.set_cons_zero, List.set_cons_succ]
    refine wpAnyH_take (i := 14) (oi := ⟨some 23, _, _, _, _, _⟩) (v := undef) rfl (by kernel_rfl) (by kernel_rfl) (by kernel_rfl) (fun _ _ _ h => h) (Or.inr ⟨by kernel_rfl, rfl⟩) hH ?_
    simp only [Act.put, List.setIfInBounds_toArray, List.set_cons_zero, List.set_cons_succ]
    refine wpAnyH_take (i := 15) (oi := ⟨some 24, _, _, _, _, _⟩) (v := undef) rfl (by kernel_rfl) (by kernel_rfl) (by kernel_rfl) (fun _ _ _ h => h) (Or.inr ⟨by kernel_rfl, rfl⟩) hH ?_
    simp only [Act.put, List.setIfInBounds_toArray, List.set_cons_zero, List.set_cons_succ]
    refine wpAnyH_take (i := 16) (oi := ⟨some 25, _, _, _, _, _⟩) (v := undef) rfl (by kernel_rfl) (by kernel_rfl) (by kernel_rfl) (fun _ _ _ h => h) (Or.inr ⟨by kernel_rfl, rfl⟩) hH ?_
    simp only [Act.put, List.setIfInBounds_toArray, List.set_cons_zero, List.set_cons_succ]
    refine wpAnyH_take (i := 17) (oi := ⟨some 26, _, _, _, _, _⟩) (v := undef) rfl (by kernel_rfl) (by kernel_rfl) (by kernel_rfl) (fun _ _ _ h => h) (Or.inr ⟨by kernel_rfl, rfl⟩) hH ?_
    simp only [Act.put, List.setIfInBounds_toArray, List.set_cons_zero, List.set_cons_succ]
    refine wpAnyH_take (i := 18) (oi := ⟨some 27, _, _, _, _, _⟩) (v := undef) rfl (by kernel_rfl) (by kernel_rfl) (by kernel_rfl) (fun _ _ _ h => h) (Or.inr ⟨by kernel_rfl, rfl⟩) hH ?_
    simp only [Act.put, List.setIfInBounds_toArray, List.set_cons_zero, List.set_cons_succ]
    refine wpAnyH_take (i := 19) (oi := ⟨some 28, _, _, _, _, _⟩) (v := undef) rfl (by kernel_rfl) (by kernel_rfl) (by kernel_rfl) (fun _ _ _ h => h) (Or.inr ⟨by kernel_rfl, rfl⟩) hH ?_
    simp only [Act.put, List.setIfInBounds_toArray, List.set_cons_zero, List.set_cons_succ]
    refine wpAnyH_take (i := 20) (oi := ⟨some 29, _, _, _, _, _⟩) (v := undef) rfl (by kernel_rfl) (by kernel_rfl) (by kernel_rfl) (fun _ _ _ h => h) (Or.inr ⟨by kernel_rfl, rfl⟩) hH ?_
    simp only [Act.put, List.setIfInBounds_toArray, List.set_cons_zero, List.set_cons_succ]
    refine wpAnyH_take (i := 21) (oi := ⟨some 30, _, _, _, _, _⟩) (v := undef) rfl (by kernel_rfl) (by kernel_rfl) (by kernel_rfl) (fun _ _ _ h => h) (Or.inr ⟨by kernel_rfl, rfl⟩) hH ?_
    simp only [Act.put, List.setIfInBounds_toArray, List.set_cons_zero, List.set_cons_succ]
    refine wpAnyH_take (i := 22) (oi := ⟨some 31, _, _, _, _, _⟩) (v := undef) rfl (by kernel_rfl) (by kernel_rfl) (by kernel_rfl) (fun _ _ _ h => h) (Or.inr ⟨by kernel_rfl, rfl⟩) hH ?_
    simp only [Act.put, List.setIfInBounds_toArray, List.set_cons_zero, List.set_cons_succ]
    refine wpAnyH_take (i := 23) (oi := ⟨some 32, _, _, _, _, _⟩) (v := ?_) rfl (by kernel_rfl) (by kernel_rfl) (by kernel_rfl) (fun _ _ _ h => h) (Or.inl ⟨by kernel_rfl, ?_⟩) hH ?_
    rotate_left 1
    · intro wq hq; have hq1 := hq.1; first | (go_simp; done) | (go_simp; with_reducible rfl)
    simp only [Act.put, List.setIfInBounds_toArray, List.set_cons_zero, List.set_cons_succ]
    refine wpAnyH_take (i := 24) (oi := ⟨some 33, _, _, _, _, _⟩) (v := ?_) rfl (by kernel_rfl) (by kernel_rfl) (by kernel_rfl) (fun _ _ _ h => h) (Or.inl ⟨by kernel_rfl, ?_⟩) hH ?_
    rotate_left 1
    · intro wq hq; have hq1 := hq.1; first | (go_simp; done) | (go_simp; with_reducible rfl)
    simp only [Act.put, List.setIfInBounds_toArray, List.set_cons_zero, List.set_cons_succ]
    refine wpAnyH_take (i := 25) (oi := ⟨some 34, _, _, _, _, _⟩) (v := undef) rfl (by kernel_rfl) (by kernel_rfl) (by kernel_rfl) (fun _ _ _ h => h) (Or.inr ⟨by kernel_rfl, rfl⟩) hH ?_
    simp only [Act.put, List.setIfInBounds_toArray, List.set_cons_zero, List.set_cons_succ]
    refine wpAnyH_take (i := 26) (oi := ⟨some 35, _, _, _, _, _⟩) (v := undef) rfl (by kernel_rfl) (by kernel_rfl) (by kernel_rfl) (fun _ _ _ h => h) (Or.inr ⟨by kernel_rfl, rfl⟩) hH ?_
    simp only [Act.put, List.setIfInBounds_toArray, List.set_cons_zero, List.set_cons_succ]
    refine wpAnyH_take (i := 27) (oi := ⟨some 36, _, _, _, _, _⟩) (v := undef) rfl (by kernel_rfl) (by kernel_rfl) (by kernel_rfl) (fun _ _ _ h => h) (Or.inr ⟨by kernel_rfl, rfl⟩) hH ?_
    simp only [Act.put, List.setIfInBounds_toArray, List.set_cons_zero, List.set_cons_succ]
    refine wpAnyH_take (i := 28) (oi := ⟨some 37, _, _, _, _, _⟩) (v := undef) rfl (by kernel_rfl) (by kernel_rfl) (by kernel_rfl) (fun _ _ _ h => h) (Or.inr ⟨by kernel_rfl, rfl⟩) hH ?_
    simp only [Act.put, List.setIfInBounds_toArray, List.set_cons_zero, List.set_cons_succ]
    refine wpAnyH_take (i := 29) (oi := ⟨some 38, _, _, _, _, _⟩) (v := undef) rfl (by kernel_rfl) (by kernel_rfl) (by kernel_rfl) (fun _ _ _ h => h) (Or.inr ⟨by kernel_rfl, rfl⟩) hH ?_
    simp only [Act.put, List.setIfInBounds_toArray, List.set_cons_zero, List.set_cons_succ]
    refine wpAnyH_take (i := 30) (oi := ⟨some 39, _, _, _, _, _⟩) (v := undef) rfl (by kernel_rfl) (by kernel_rfl) (by kernel_rfl) (fun _ _ _ h => h) (Or.inr ⟨by kernel_rfl, rfl⟩) hH ?_
    simp only [Act.put, List.setIfInBounds_toArray, List.set_cons_zero, List.set_cons_succ]
    refine wpAnyH_take (i := 31) (oi := ⟨some 40, _, _, _, _, _⟩) (v := undef) rfl (by kernel_rfl) (by kernel_rfl) (by kernel_rfl) (fun _ _ _ h => h) (Or.inr ⟨by kernel_rfl, rfl⟩) hH ?_
    simp only [Act.put, List.setIfInBounds_toArray, List.set_cons_zero, List.set_cons_succ]
    refine wpAnyH_take (i := 32) (oi := ⟨some 41, _, _, _, _, _⟩) (v := ?_) rfl (by kernel_rfl) (by kernel_rfl) (by kernel_rfl) (fun _ _ _ h => h) (Or.inl ⟨by kernel_rfl, ?_⟩) hH ?_
    rotate_left 1
    · intro wq hq; have hq1 := hq.1; first | (go_simp; done) | (go_simp; with_reducible rfl)
    simp only [Act.put, List.setIfInBounds_toArray, List.set_cons_zero, List.set_cons_succ]
    refine wpAnyH_take (i := 33) (oi := ⟨some 6, _, _, _, _, _⟩) (v := ?_) rfl (by kernel_rfl) (by kernel_rfl) (by kernel_rfl) (fun _ _ _ h => h) (Or.inl ⟨by kernel_rfl, ?_⟩) hH ?_
    rotate_left 1
    · intro wq hq; have hq1 := hq.1; first | (go_simp; done) | (go_simp; with_reducible rfl)
    simp only [Act.put, List.setIfInBounds_toArray, List.set_cons_zero, List.set_cons_succ]
    refine wpAnyH_done (by kernel_rfl) ?_ _
    go_wp2_with fail
    go_ret
    exact ⟨ret_bool HA.out.symm, hH.2⟩
  | true =>
    obtain ⟨ho, hx0, hx1⟩ := HX.out hr
    rw [hr] at HC
    rw [ho] at HO
    clear ho HX
    have hw1 : IntKind.u64.wrap (n : Int) = n := by rw [IntKind.wrap_u64]; omega
    have hw2 : IntKind.u64.wrap ((n : Int) * 4096) = n * 4096 := by rw [IntKind.wrap_u64]; omega
    have hw3 : IntKind.u64.wrap k = k := by rw [IntKind.wrap_u64]; omega
    have hw5 : IntKind.i64.wrap ((n : Int) * 4096) = n * 4096 := by rw [IntKind.wrap_i64]; omega
    by_cases hkn : k ≤ n * 4096
    · by_cases hoff : x - 2147483648 ≤ n * 4096 - k
      · have HA : Hid (ramAll n x k = true) := by show _ = _; unfold ramAll; rw [hr]; simp; right; omega
        clear hr
        have hw4 : IntKind.u64.wrap ((n : Int) * 4096 - k) = n * 4096 - k := by rw [IntKind.wrap_u64]; omega
        have hd1 : decide (x - 2147483648 ≤ (n : Int) * 4096 - k) = true := by simpa using hoff
        have hd2 : decide (k ≤ (n : Int) * 4096) = true := by simpa using hkn
        clear hoff hkn
        go_enter Try.func65, Try.ntmps65
        go_wp2_with fail
        refine wp_region_held_drew (S := fun w' => w'.cell? ⟨b, 0, none⟩ = some (.int .i64 n) ∧ Below w.heap.size w w') (by kernel_rfl) ⟨c0, (Below.refl _ _).drew⟩ (fun hH => ?_)
        refine wpAnyH_take (i := 0) (oi := ⟨some 9, _, _, _, _, _⟩) (v := ?_) rfl (by kernel_rfl) (by kernel_rfl) (by kernel_rfl) (fun _ _ _ h => h) (Or.inl ⟨by kernel_rfl, ?_⟩) hH ?_
        rotate_left 1
        · intro wq hq; have hq1 := hq.1; first | (go_simp; done) | (go_simp; with_reducible rfl)
        simp only [Act.put, List.setIfInBounds_toArray, List.set_cons_zero, List.set_cons_succ]
        refine wpAnyH_take (i := 1) (oi := ⟨some 10, _, _, _, _, _⟩) (v := ?_) rfl (by kernel_rfl) (by kernel_rfl) (by kernel_rfl) (fun _ _ _ h => h) (Or.inl ⟨by kernel_rfl, ?_⟩) hH ?_
        rotate_left 1
        · intro wq hq; have hq1 := hq.1; first | (go_simp; done) | (go_simp; with_reducible rfl)
        simp only [Act.put, List.setIfInBounds_toArray, List.set_cons_zero, List.set_cons_succ]
        refine wpAnyH_take (i := 2) (oi := ⟨some 11, _, _, _, _, _⟩) (v := ?_) rfl (by kernel_rfl) (by kernel_rfl) (by kernel_rfl) (fun _ _ _ h => h) (Or.inl ⟨by kernel_rfl, ?_⟩) hH ?_
        rotate_left 1
        · intro wq hq; have hq1 := hq.1; first | (go_simp; done) | (go_simp; with_reducible rfl)
        simp only [Act.put, List.setIfInBounds_toArray, List.set_cons_zero, List.set_cons_succ]
        refine wpAnyH_take (i := 3) (oi := ⟨some 12, _, _, _, _, _⟩) (v := ?_) rfl (by kernel_rfl) (by kernel_rfl) (by kernel_rfl) (fun _ _ _ h => h) (Or.inl ⟨by kernel_rfl, ?_⟩) hH ?_
        rotate_left 1
        · intro wq hq; have hq1 := hq.1; first | (go_simp; done) | (go_simp; with_reducible rfl)
        simp only [Act.put, List.setIfInBounds_toArray, List.set_cons_zero, List.set_cons_succ]
        refine wpAnyH_take (i := 4) (oi := ⟨some 13, _, _, _, _, _⟩) (v := ?_) rfl (by kernel_rfl) (by kernel_rfl) (by kernel_rfl) (fun _ _ _ h => h) (Or.inl ⟨by kernel_rfl, ?_⟩) hH ?_
        rotate_left 1
        · intro wq hq; have hq1 := hq.1; first | (go_simp; done) | (go_simp; with_reducible rfl)
        simp only [Act.put, List.setIfInBounds_toArray, List.set_cons_zero, List.set_cons_succ]
        refine wpAnyH_ready (rs := [5]) (by kernel_rfl) (by simp) (AllReadyH.cons (o := ⟨some 14, _, _, _, _, _⟩) rfl (fun K hK => ?_) AllReadyH.nil)
        go_simp
        refine (HC.out _).mono ?_
        rintro e w1 ⟨rfl, hb1⟩
        go_wp2_with fail
        refine hK.out _ _ ?_ (fun hH => ?_)
        · have hs := hH.2.size; exact ⟨(hb1.cell (p := ⟨b, 0, none⟩) (by first | omega | (simp; omega))).trans hH.1, below_then hH.2 hb1 hH.2.size⟩
        clear hK K
        try simp only [Act.put, List.setIfInBounds_toArray, List.set_cons_zero, List.set_cons_succ]
        refine wpAnyH_take (i := 6) (oi := ⟨some 15, _, _, _, _, _⟩) (v := ?_) rfl (by kernel_rfl) (by kernel_rfl) (by kernel_rfl) (fun _ _ _ h => h) (Or.inl ⟨by kernel_rfl, ?_⟩) hH ?_
        rotate_left 1
        · intro wq hq; have hq1 := hq.1; first | (go_simp; done) | (go_simp; with_reducible rfl)
        simp only [Act.put, List.setIfInBounds_toArray, List.set_cons_zero, List.set_cons_succ]
        refine wpAnyH_take (i := 7) (oi := ⟨some 16, _, _, _, _, _⟩) (v := ?_) rfl (by kernel_rfl) (by kernel_rfl) (by kernel_rfl) (fun _ _ _ h => h) (Or.inl ⟨by kernel_rfl, ?_⟩) hH ?_
        rotate_left 1
        · intro wq hq; have hq1 := hq.1; first | (go_simp; done) | (go_simp; with_reducible rfl)
        simp only [Act.put, List.setIfInBounds_toArray, List.set_cons_zero, List.set_cons_succ]
        refine wpAnyH_take (i := 8) (oi := ⟨some 17, _, _, _, _, _⟩) (v := ?_) rfl (by kernel_rfl) (by kernel_rfl) (by kernel_rfl) (fun _ _ _ h => h) (Or.inl ⟨by kernel_rfl, ?_⟩) hH ?_
        rotate_left 1
        · intro wq hq; have hq1 := hq.1; first | (go_simp; done) | (go_simp; with_reducible rfl)
        simp only [Act.put, List.setIfInBounds_toArray, List.set_cons_zero, List.set_cons_succ]
        refine wpAnyH_take (i := 9) (oi := ⟨some 18, _, _, _, _, _⟩) (v := ?_) rfl (by kernel_rfl) (by kernel_rfl) (by kernel_rfl) (fun _ _ _ h => h) (Or.inl ⟨by kernel_rfl, ?_⟩) hH ?_
        rotate_left 1
        · intro wq hq; have hq1 := hq.1; first | (go_simp; done) | (go_simp; with_reducible rfl)
        simp only [Act.put, List.setIfInBounds_toArray, List.set_cons_zero, List.set_cons_succ]
        refine wpAnyH_take (i := 10) (oi := ⟨some 19, _, _, _, _, _⟩) (v := ?_) rfl (by kernel_rfl) (by kernel_rfl) (by kernel_rfl) (fun _ _ _ h => h) (Or.inl ⟨by kernel_rfl, ?_⟩) hH ?_
        rotate_left 1
        · intro wq hq; have hq1 := hq.1; first | (go_simp; done) | (go_simp; with_reducible rfl)
        simp only [Act.put, List.setIfInBounds_toArray, List.set_cons_zero, List.set_cons_succ]
        refine wpAnyH_take (i := 11) (oi := ⟨some 20, _, _, _, _, _⟩) (v := ?_) rfl (by kernel_rfl) (by kernel_rfl) (by kernel_rfl) (fun _ _ _ h => h) (Or.inl ⟨by kernel_rfl, ?_⟩) hH ?_
        rotate_left 1
        · intro wq hq; have hq1 := hq.1; first | (go_simp; done) | (go_simp; with_reducible rfl)
        simp only [Act.put, List.setIfInBounds_toArray, List.set_cons_zero, List.set_cons_succ]
        refine wpAnyH_take (i := 13) (oi := ⟨some 22, _, _, _, _, _⟩) (v := ?_) rfl (by kernel_rfl) (by kernel_rfl) (by kernel_rfl) (fun _ _ _ h => h) (Or.inl ⟨by kernel_rfl, ?_⟩) hH ?_
        rotate_left 1
        · intro wq hq; have hq1 := hq.1; first | (go_simp; done) | (go_simp; with_reducible rfl)
        simp only [Act.put, List.setIfInBounds_toArray, List.set_cons_zero, List.set_cons_succ]
        refine wpAnyH_take (i := 14) (oi := ⟨some 23, _, _, _, _, _⟩) (v := ?_) rfl (by kernel_rfl) (by kernel_rfl) (by kernel_rfl) (fun _ _ _ h => h) (Or.inl ⟨by kernel_rfl, ?_⟩) hH ?_
        rotate_left 1
        · intro wq hq; have hq1 := hq.1; first | (go_simp; done) | (go_simp; with_reducible rfl)
        simp only [Act.put, List.setIfInBounds_toArray, List.set_cons_zero, List.set_cons_succ]
        refine wpAnyH_take (i := 15) (oi := ⟨some 24, _, _, _, _, _⟩) (v := ?_) rfl (by kernel_rfl) (by kernel_rfl) (by kernel_rfl) (fun _ _ _ h => h) (Or.inl ⟨by kernel_rfl, ?_⟩) hH ?_
        rotate_left 1
        · intro wq hq; have hq1 := hq.1; first | (go_simp; done) | (go_simp; with_reducible rfl)
        simp only [Act.put, List.setIfInBounds_toArray, List.set_cons_zero, List.set_cons_succ]
        refine wpAnyH_take (i := 16) (oi := ⟨some 25, _, _, _, _, _⟩) (v := ?_) rfl (by kernel_rfl) (by kernel_rfl) (by kernel_rfl) (fun _ _ _ h => h) (Or.inl ⟨by kernel_rfl, ?_⟩) hH ?_
        rotate_left 1
        · intro wq hq; have hq1 := hq.1; first | (go_simp; done) | (go_simp; with_reducible rfl)
        simp only [Act.put, List.setIfInBounds_toArray, List.set_cons_zero, List.set_cons_succ]
        refine wpAnyH_take (i := 17) (oi := ⟨some 26, _, _, _, _, _⟩) (v := ?_) rfl (by kernel_rfl) (by kernel_rfl) (by kernel_rfl) (fun _ _ _ h => h) (Or.inl ⟨by kernel_rfl, ?_⟩) hH ?_
        rotate_left 1
        · intro wq hq; have hq1 := hq.1; first | (go_simp; done) | (go_simp; with_reducible rfl)
        simp only [Act.put, List.setIfInBounds_toArray, List.set_cons_zero, List.set_cons_succ]
        refine wpAnyH_take (i := 18) (oi := ⟨some 27, _, _, _, _, _⟩) (v := ?_) rfl (by kernel_rfl) (by kernel_rfl) (by kernel_rfl) (fun _ _ _ h => h) (Or.inl ⟨by kernel_rfl, ?_⟩) hH ?_
        rotate_left 1
        · intro wq hq; have hq1 := hq.1; first | (go_simp; done) | (go_simp; with_reducible rfl)
        simp only [Act.put, List.setIfInBounds_toArray, List.set_cons_zero, List.set_cons_succ]
        refine wpAnyH_take (i := 19) (oi := ⟨some 28, _, _, _, _, _⟩) (v := ?_) rfl (by kernel_rfl) (by kernel_rfl) (by kernel_rfl) (fun _ _ _ h => h) (Or.inl ⟨by kernel_rfl, ?_⟩) hH ?_
        rotate_left 1
        · intro wq hq; have hq1 := hq.1; first | (go_simp; done) | (go_simp; with_reducible rfl)
        simp only [Act.put, List.setIfInBounds_toArray, List.set_cons_zero, List.set_cons_succ]
        refine wpAnyH_take (i := 20) (oi := ⟨some 29, _, _, _, _, _⟩) (v := ?_) rfl (by kernel_rfl) (by kernel_rfl) (by kernel_rfl) (fun _ _ _ h => h) (Or.inl ⟨by kernel_rfl, ?_⟩) hH ?_
        rotate_left 1
        · intro wq hq; have hq1 := hq.1; first | (go_simp; done) | (go_simp; with_reducible rfl)
        simp only [Act.put, List.setIfInBounds_toArray, List.set_cons_zero, List.set_cons_succ]
        refine wpAnyH_take (i := 21) (oi := ⟨some 30, _, _, _, _, _⟩) (v := ?_) rfl (by kernel_rfl) (by kernel_rfl) (by kernel_rfl) (fun _ _ _ h => h) (Or.inl ⟨by kernel_rfl, ?_⟩) hH ?_
        rotate_left 1
        · intro wq hq; have hq1 := hq.1; first | (go_simp; done) | (go_simp; with_reducible rfl)
        simp only [Act.put, List.setIfInBounds_toArray, List.set_cons_zero, List.set_cons_succ]
        refine wpAnyH_ready (rs := [12]) (by kernel_rfl) (by simp) (AllReadyH.cons (o := ⟨some 21, _, _, _, _, _⟩) rfl (fun K hK => ?_) AllReadyH.nil)
        go_simp
        refine (HO.out _).mono ?_
        rintro e w2 ⟨rfl, hb2⟩
        go_wp2_with fail
        refine hK.out _ _ ?_ (fun hH => ?_)
        · have hs := hH.2.size; exact ⟨(hb2.cell (p := ⟨b, 0, none⟩) (by first | omega | (simp; omega))).trans hH.1, below_then hH.2 hb2 hH.2.size⟩
        clear hK K
        try simp only [Act.put, List.setIfInBounds_toArray, List.set_cons_zero, List.set_cons_succ]
        refine wpAnyH_take (i := 22) (oi := ⟨some 31, _, _, _, _, _⟩) (v := ?_) rfl (by kernel_rfl) (by kernel_rfl) (by kernel_rfl) (fun _ _ _ h => h) (Or.inl ⟨by kernel_rfl, ?_⟩) hH ?_
        rotate_left 1
        · intro wq hq; have hq1 := hq.1; first | (go_simp; done) | (go_simp; with_reducible rfl)
        simp only [Act.put, List.setIfInBounds_toArray, List.set_cons_zero, List.set_cons_succ]
        refine wpAnyH_take (i := 23) (oi := ⟨some 32, _, _, _, _, _⟩) (v := ?_) rfl (by kernel_rfl) (by kernel_rfl) (by kernel_rfl) (fun _ _ _ h => h) (Or.inl ⟨by kernel_rfl, ?_⟩) hH ?_
        rotate_left 1
        · intro wq hq; have hq1 := hq.1; first | (go_simp; done) | (go_simp; with_reducible rfl)
        simp only [Act.put, List.setIfInBounds_toArray, List.set_cons_zero, List.set_cons_succ]
        refine wpAnyH_take (i := 24) (oi := ⟨some 33, _, _, _, _, _⟩) (v := ?_) rfl (by kernel_rfl) (by kernel_rfl) (by kernel_rfl) (fun _ _ _ h => h) (Or.inl ⟨by kernel_rfl, ?_⟩) hH ?_
        rotate_left 1
        · intro wq hq; have hq1 := hq.1; first | (go_simp; done) | (go_simp; with_reducible rfl)
        simp only [Act.put, List.setIfInBounds_toArray, List.set_cons_zero, List.set_cons_succ]
        refine wpAnyH_take (i := 25) (oi := ⟨some 34, _, _, _, _, _⟩) (v := ?_) rfl (by kernel_rfl) (by kernel_rfl) (by kernel_rfl) (fun _ _ _ h => h) (Or.inl ⟨by kernel_rfl, ?_⟩) hH ?_
        rotate_left 1
        · intro wq hq; have hq1 := hq.1; first | (go_simp; done) | (go_simp; with_reducible rfl)
        simp only [Act.put, List.setIfInBounds_toArray, List.set_cons_zero, List.set_cons_succ]
        refine wpAnyH_take (i := 26) (oi := ⟨some 35, _, _, _, _, _⟩) (v := ?_) rfl (by kernel_rfl) (by kernel_rfl) (by kernel_rfl) (fun _ _ _ h => h) (Or.inl ⟨by kernel_rfl, ?_⟩) hH ?_
        rotate_left 1
        · intro wq hq; have hq1 := hq.1; first | (go_simp; done) | (go_simp; with_reducible rfl)
        simp only [Act.put, List.setIfInBounds_toArray, List.set_cons_zero, List.set_cons_succ]
        refine wpAnyH_take (i := 27) (oi := ⟨some 36, _, _, _, _, _⟩) (v := ?_) rfl (by kernel_rfl) (by kernel_rfl) (by kernel_rfl) (fun _ _ _ h => h) (Or.inl ⟨by kernel_rfl, ?_⟩) hH ?_
        rotate_left 1
        · intro wq hq; have hq1 := hq.1; first | (go_simp; done) | (go_simp; with_reducible rfl)
        simp only [Act.put, List.setIfInBounds_toArray, List.set_cons_zero, List.set_cons_succ]
        refine wpAnyH_take (i := 28) (oi := ⟨some 37, _, _, _, _, _⟩) (v := ?_) rfl (by kernel_rfl) (by kernel_rfl) (by kernel_rfl) (fun _ _ _ h => h) (Or.inl ⟨by kernel_rfl, ?_⟩) hH ?_
        rotate_left 1
        · intro wq hq; have hq1 := hq.1; first | (go_simp; done) | (go_simp; with_reducible rfl)
        simp only [Act.put, List.setIfInBounds_toArray, List.set_cons_zero, List.set_cons_succ]
        refine wpAnyH_take (i := 29) (oi := ⟨some 38, _, _, _, _, _⟩) (v := ?_) rfl (by kernel_rfl) (by kernel_rfl) (by kernel_rfl) (fun _ _ _ h => h) (Or.inl ⟨by kernel_rfl, ?_⟩) hH ?_
        rotate_left 1
        · intro wq hq; have hq1 := hq.1; first | (go_simp; done) | (go_simp; with_reducible rfl)
        simp only [Act.put, List.setIfInBounds_toArray, List.set_cons_zero, List.set_cons_succ]
        refine wpAnyH_take (i := 30) (oi := ⟨some 39, _, _, _, _, _⟩) (v := ?_) rfl (by kernel_rfl) (by kernel_rfl) (by kernel_rfl) (fun _ _ _ h => h) (Or.inl ⟨by kernel_rfl, ?_⟩) hH ?_
        rotate_left 1
        · intro wq hq; have hq1 := hq.1; first | (go_simp; done) | (go_simp; with_reducible rfl)
        simp only [Act.put, List.setIfInBounds_toArray, List.set_cons_zero, List.set_cons_succ]
        refine wpAnyH_take (i := 31) (oi := ⟨some 40, _, _, _, _, _⟩) (v := ?_) rfl (by kernel_rfl) (by kernel_rfl) (by kernel_rfl) (fun _ _ _ h => h) (Or.inl ⟨by kernel_rfl, ?_⟩) hH ?_
        rotate_left 1
        · intro wq hq; have hq1 := hq.1; first | (go_simp; done) | (go_simp; with_reducible rfl)
        simp only [Act.put, List.setIfInBounds_toArray, List.set_cons_zero, List.set_cons_succ]
        refine wpAnyH_take (i := 32) (oi := ⟨some 41, _, _, _, _, _⟩) (v := ?_) rfl (by kernel_rfl) (by kernel_rfl) (by kernel_rfl) (fun _ _ _ h => h) (Or.inl ⟨by kernel_rfl, ?_⟩) hH ?_
        rotate_left 1
        · intro wq hq; have hq1 := hq.1; first | (go_simp; done) | (go_simp; with_reducible rfl)
        simp only [Act.put, List.setIfInBounds_toArray, List.set_cons_zero, List.set_cons_succ]
        refine wpAnyH_take (i := 33) (oi := ⟨some 6, _, _, _, _, _⟩) (v := ?_) rfl (by kernel_rfl) (by kernel_rfl) (by kernel_rfl) (fun _ _ _ h => h) (Or.inl ⟨by kernel_rfl, ?_⟩) hH ?_
        rotate_left 1
        · intro wq hq; have hq1 := hq.1; first | (go_simp; done) | (go_simp; with_reducible rfl)
        simp only [Act.put, List.setIfInBounds_toArray, List.set_cons_zero, List.set_cons_succ]
        refine wpAnyH_done (by kernel_rfl) ?_ _
        go_wp2_with fail
        go_ret
        exact ⟨ret_bool HA.out.symm, hH.2⟩
      · have HA : Hid (ramAll n x k = false) := by show _ = _; unfold ramAll; rw [hr]; simp [hk]; omega
        clear hr
        have hw4 : IntKind.u64.wrap ((n : Int) * 4096 - k) = n * 4096 - k := by rw [IntKind.wrap_u64]; omega
        have hd1 : decide (x - 2147483648 ≤ (n : Int) * 4096 - k) = false := by simpa using hoff
        clear hoff hkn
        go_enter Try.func65, Try.ntmps65
        go_wp2_with fail
        refine wp_region_held_drew (S := fun w' => w'.cell? ⟨b, 0, none⟩ = some (.int .i64 n) ∧ Below w.heap.size w w') (by kernel_rfl) ⟨c0, (Below.refl _ _).drew⟩ (fun hH => ?_)
        refine wpAnyH_take (i := 0) (oi := ⟨some 9, _, _, _, _, _⟩) (v := ?_) rfl (by kernel_rfl) (by kernel_rfl) (by kernel_rfl) (fun _ _ _ h => h) (Or.inl ⟨by kernel_rfl, ?_⟩) hH ?_
        rotate_left 1
        · intro wq hq; have hq1 := hq.1; first | (go_simp; done) | (go_simp; with_reducible rfl)
        simp only [Act.put, List.setIfInBounds_toArray, List.set_cons_zero, List.set_cons_succ]
        refine wpAnyH_take (i := 1) (oi := ⟨some 10, _, _, _, _, _⟩) (v := ?_) rfl (by kernel_rfl) (by kernel_rfl) (by kernel_rfl) (fun _ _ _ h => h) (Or.inl ⟨by kernel_rfl, ?_⟩) hH ?_
        rotate_left 1
        · intro wq hq; have hq1 := hq.1; first | (go_simp; done) | (go_simp; with_reducible rfl)
        simp only [Act.put, List.setIfInBounds_toArray, List.set_cons_zero, List.set_cons_succ]
        refine wpAnyH_take (i := 2) (oi := ⟨some 11, _, _, _, _, _⟩) (v := ?_) rfl (by kernel_rfl) (by kernel_rfl) (by kernel_rfl) (fun _ _ _ h => h) (Or.inl ⟨by kernel_rfl, ?_⟩) hH ?_
        rotate_left 1
        · intro wq hq; have hq1 := hq.1; first | (go_simp; done) | (go_simp; with_reducible rfl)
        simp only [Act.put, List.setIfInBounds_toArray, List.set_cons_zero, List.set_cons_succ]
        refine wpAnyH_take (i := 3) (oi := ⟨some 12, _, _, _, _, _⟩) (v := ?_) rfl (by kernel_rfl) (by kernel_rfl) (by kernel_rfl) (fun _ _ _ h => h) (Or.inl ⟨by kernel_rfl, ?_⟩) hH ?_
        rotate_left 1
        · intro wq hq; have hq1 := hq.1; first | (go_simp; done) | (go_simp; with_reducible rfl)
        simp only [Act.put, List.setIfInBounds_toArray, List.set_cons_zero, List.set_cons_succ]
        refine wpAnyH_take (i := 4) (oi := ⟨some 13, _, _, _, _, _⟩) (v := ?_) rfl (by kernel_rfl) (by kernel_rfl) (by kernel_rfl) (fun _ _ _ h => h) (Or.inl ⟨by kernel_rfl, ?_⟩) hH ?_
        rotate_left 1
        · intro wq hq; have hq1 := hq.1; first | (go_simp; done) | (go_simp; with_reducible rfl)
        simp only [Act.put, List.setIfInBounds_toArray, List.set_cons_zero, List.set_cons_succ]
        refine wpAnyH_ready (rs := [5]) (by kernel_rfl) (by simp) (AllReadyH.cons (o := ⟨some 14, _, _, _, _, _⟩) rfl (fun K hK => ?_) AllReadyH.nil)
        go_simp
        refine (HC.out _).mono ?_
        rintro e w1 ⟨rfl, hb1⟩
        go_wp2_with fail
        refine hK.out _ _ ?_ (fun hH => ?_)
        · have hs := hH.2.size; exact ⟨(hb1.cell (p := ⟨b, 0, none⟩) (by first | omega | (simp; omega))).trans hH.1, below_then hH.2 hb1 hH.2.size⟩
        clear hK K
        try simp only [Act.put, List.setIfInBounds_toArray, List.set_cons_zero, List.set_cons_succ]
        refine wpAnyH_take (i := 6) (oi := ⟨some 15, _, _, _, _, _⟩) (v := ?_) rfl (by kernel_rfl) (by kernel_rfl) (by kernel_rfl) (fun _ _ _ h => h) (Or.inl ⟨by kernel_rfl, ?_⟩) hH ?_
        rotate_left 1
        · intro wq hq; have hq1 := hq.1; first | (go_simp; done) | (go_simp; with_reducible rfl)
        simp only [Act.put, List.setIfInBounds_toArray, List.set_cons_zero, List.set_cons_succ]
        refine wpAnyH_take (i := 7) (oi := ⟨some 16, _, _, _, _, _⟩) (v := ?_) rfl (by kernel_rfl) (by kernel_rfl) (by kernel_rfl) (fun _ _ _ h => h) (Or.inl ⟨by kernel_rfl, ?_⟩) hH ?_
        rotate_left 1
        · intro wq hq; have hq1 := hq.1; first | (go_simp; done) | (go_simp; with_reducible rfl)
        simp only [Act.put, List.setIfInBounds_toArray, List.set_cons_zero, List.set_cons_succ]
        refine wpAnyH_take (i := 8) (oi := ⟨some 17, _, _, _, _, _⟩) (v := ?_) rfl (by kernel_rfl) (by kernel_rfl) (by kernel_rfl) (fun _ _ _ h => h) (Or.inl ⟨by kernel_rfl, ?_⟩) hH ?_
        rotate_left 1
        · intro wq hq; have hq1 := hq.1; first | (go_simp; done) | (go_simp; with_reducible rfl)
        simp only [Act.put, List.setIfInBounds_toArray, List.set_cons_zero, List.set_cons_succ]
        refine wpAnyH_take (i := 9) (oi := ⟨some 18, _, _, _, _, _⟩) (v := ?_) rfl (by kernel_rfl) (by kernel_rfl) (by kernel_rfl) (fun _ _ _ h => h) (Or.inl ⟨by kernel_rfl, ?_⟩) hH ?_
        rotate_left 1
        · intro wq hq; have hq1 := hq.1; first | (go_simp; done) | (go_simp; with_reducible rfl)
        simp only [Act.put, List.setIfInBounds_toArray, List.set_cons_zero, List.set_cons_succ]
        refine wpAnyH_take (i := 10) (oi := ⟨some 19, _, _, _, _, _⟩) (v := ?_) rfl (by kernel_rfl) (by kernel_rfl) (by kernel_rfl) (fun _ _ _ h => h) (Or.inl ⟨by kernel_rfl, ?_⟩) hH ?_
        rotate_left 1
        · intro wq hq; have hq1 := hq.1; first | (go_simp; done) | (go_simp; with_reducible rfl)
        simp only [Act.put, List.setIfInBounds_toArray, List.set_cons_zero, List.set_cons_succ]
        refine wpAnyH_take (i := 11) (oi := ⟨some 20, _, _, _, _, _⟩) (v := ?_) rfl (by kernel_rfl) (by kernel_rfl) (by kernel_rfl) (fun _ _ _ h => h) (Or.inl ⟨by kernel_rfl, ?_⟩) hH ?_
        rotate_left 1
        · intro wq hq; have hq1 := hq.1; first | (go_simp; done) | (go_simp; with_reducible rfl)
        simp only [Act.put, List.setIfInBounds_toArray, List.set_cons_zero, List.set_cons_succ]
        refine wpAnyH_take (i := 13) (oi := ⟨some 22, _, _, _, _, _⟩) (v := ?_) rfl (by kernel_rfl) (by kernel_rfl) (by kernel_rfl) (fun _ _ _ h => h) (Or.inl ⟨by kernel_rfl, ?_⟩) hH ?_
        rotate_left 1
        · intro wq hq; have hq1 := hq.1; first | (go_simp; done) | (go_simp; with_reducible rfl)
        simp only [Act.put, List.setIfInBounds_toArray, List.set_cons_zero, List.set_cons_succ]
        refine wpAnyH_take (i := 14) (oi := ⟨some 23, _, _, _, _, _⟩) (v := ?_) rfl (by kernel_rfl) (by kernel_rfl) (by kernel_rfl) (fun _ _ _ h => h) (Or.inl ⟨by kernel_rfl, ?_⟩) hH ?_
        rotate_left 1
        · intro wq hq; have hq1 := hq.1; first | (go_simp; done) | (go_simp; with_reducible rfl)
        simp only [Act.put, List.setIfInBounds_toArray, List.set_cons_zero, List.set_cons_succ]
        refine wpAnyH_take (i := 15) (oi := ⟨some 24, _, _, _, _, _⟩) (v := ?_) rfl (by kernel_rfl) (by kernel_rfl) (by kernel_rfl) (fun _ _ _ h => h) (Or.inl ⟨by kernel_rfl, ?_⟩) hH ?_
        rotate_left 1
        · intro wq hq; have hq1 := hq.1; first | (go_simp; done) | (go_simp; with_reducible rfl)
        simp only [Act.put, List.setIfInBounds_toArray, List.set_cons_zero, List.set_cons_succ]
        refine wpAnyH_take (i := 16) (oi := ⟨some 25, _, _, _, _, _⟩) (v := ?_) rfl (by kernel_rfl) (by kernel_rfl) (by kernel_rfl) (fun _ _ _ h => h) (Or.inl ⟨by kernel_rfl, ?_⟩) hH ?_
        rotate_left 1
        · intro wq hq; have hq1 := hq.1; first | (go_simp; done) | (go_simp; with_reducible rfl)
        simp only [Act.put, List.setIfInBounds_toArray, List.set_cons_zero, List.set_cons_succ]
        refine wpAnyH_take (i := 17) (oi := ⟨some 26, _, _, _, _, _⟩) (v := ?_) rfl (by kernel_rfl) (by kernel_rfl) (by kernel_rfl) (fun _ _ _ h => h) (Or.inl ⟨by kernel_rfl, ?_⟩) hH ?_
        rotate_left 1
        · intro wq hq; have hq1 := hq.1; first | (go_simp; done) | (go_simp; with_reducible rfl)
        simp only [Act.put, List.setIfInBounds_toArray, List.set_cons_zero, List.set_cons_succ]
        refine wpAnyH_take (i := 18) (oi := ⟨some 27, _, _, _, _, _⟩) (v := ?_) rfl (by kernel_rfl) (by kernel_rfl) (by kernel_rfl) (fun _ _ _ h => h) (Or.inl ⟨by kernel_rfl, ?_⟩) hH ?_
        rotate_left 1
        · intro wq hq; have hq1 := hq.1; first | (go_simp; done) | (go_simp; with_reducible rfl)
        simp only [Act.put, List.setIfInBounds_toArray, List.set_cons_zero, List.set_cons_succ]
        refine wpAnyH_take (i := 19) (oi := ⟨some 28, _, _, _, _, _⟩) (v := ?_) rfl (by kernel_rfl) (by kernel_rfl) (by kernel_rfl) (fun _ _ _ h => h) (Or.inl ⟨by kernel_rfl, ?_⟩) hH ?_
        rotate_left 1
        · intro wq hq; have hq1 := hq.1; first | (go_simp; done) | (go_simp; with_reducible rfl)
        simp only [Act.put, List.setIfInBounds_toArray, List.set_cons_zero, List.set_cons_succ]
        refine wpAnyH_take (i := 20) (oi := ⟨some 29, _, _, _, _, _⟩) (v := ?_) rfl (by kernel_rfl) (by kernel_rfl) (by kernel_rfl) (fun _ _ _ h => h) (Or.inl ⟨by kernel_rfl, ?_⟩) hH ?_
        rotate_left 1
        · intro wq hq; have hq1 := hq.1; first | (go_simp; done) | (go_simp; with_reducible rfl)
        simp only [Act.put, List.setIfInBounds_toArray, List.set_cons_zero, List.set_cons_succ]
        refine wpAnyH_take (i := 21) (oi := ⟨some 30, _, _, _, _, _⟩) (v := ?_) rfl (by kernel_rfl) (by kernel_rfl) (by kernel_rfl) (fun _ _ _ h => h) (Or.inl ⟨by kernel_rfl, ?_⟩) hH ?_
        rotate_left 1
        · intro wq hq; have hq1 := hq.1; first | (go_simp; done) | (go_simp; with_reducible rfl)
        simp only [Act.put, List.setIfInBounds_toArray, List.set_cons_zero, List.set_cons_succ]
        refine wpAnyH_ready (rs := [12]) (by kernel_rfl) (by simp) (AllReadyH.cons (o := ⟨some 21, _, _, _, _, _⟩) rfl (fun K hK => ?_) AllReadyH.nil)
        go_simp
        refine (HO.out _).mono ?_
        rintro e w2 ⟨rfl, hb2⟩
        go_wp2_with fail
        refine hK.out _ _ ?_ (fun hH => ?_)
        · have hs := hH.2.size; exact ⟨(hb2.cell (p := ⟨b, 0, none⟩) (by first | omega | (simp; omega))).trans hH.1, below_then hH.2 hb2 hH.2.size⟩
        clear hK K
        try simp only [Act.put, List.setIfInBounds_toArray, List.set_cons_zero, List.set_cons_succ]
        refine wpAnyH_take (i := 22) (oi := ⟨some 31, _, _, _, _, _⟩) (v := ?_) rfl (by kernel_rfl) (by kernel_rfl) (by kernel_rfl) (fun _ _ _ h => h) (Or.inl ⟨by kernel_rfl, ?_⟩) hH ?_
        rotate_left 1
        · intro wq hq; have hq1 := hq.1; first | (go_simp; done) | (go_simp; with_reducible rfl)
        simp only [Act.put, List.setIfInBounds_toArray, List.set_cons_zero, List.set_cons_succ]
        refine wpAnyH_take (i := 23) (oi := ⟨some 32, _, _, _, _, _⟩) (v := ?_) rfl (by kernel_rfl) (by kernel_rfl) (by kernel_rfl) (fun _ _ _ h => h) (Or.inl ⟨by kernel_rfl, ?_⟩) hH ?_
        rotate_left 1
        · intro wq hq; have hq1 := hq.1; first | (go_simp; done) | (go_simp; with_reducible rfl)
        simp only [Act.put, List.setIfInBounds_toArray, List.set_cons_zero, List.set_cons_succ]
        refine wpAnyH_take (i := 24) (oi := ⟨some 33, _, _, _, _, _⟩) (v := ?_) rfl (by kernel_rfl) (by kernel_rfl) (by kernel_rfl) (fun _ _ _ h => h) (Or.inl ⟨by kernel_rfl, ?_⟩) hH ?_
        rotate_left 1
        · intro wq hq; have hq1 := hq.1; first | (go_simp; done) | (go_simp; with_reducible rfl)
        simp only [Act.put, List.setIfInBounds_toArray, List.set_cons_zero, List.set_cons_succ]
        refine wpAnyH_take (i := 25) (oi := ⟨some 34, _, _, _, _, _⟩) (v := undef) rfl (by kernel_rfl) (by kernel_rfl) (by kernel_rfl) (fun _ _ _ h => h) (Or.inr ⟨by kernel_rfl, rfl⟩) hH ?_
        simp only [Act.put, List.setIfInBounds_toArray, List.set_cons_zero, List.set_cons_succ]
        refine wpAnyH_take (i := 26) (oi := ⟨some 35, _, _, _, _, _⟩) (v := undef) rfl (by kernel_rfl) (by kernel_rfl) (by kernel_rfl) (fun _ _ _ h => h) (Or.inr ⟨by kernel_rfl, rfl⟩) hH ?_
        simp only [Act.put, List.setIfInBounds_toArray, List.set_cons_zero, List.set_cons_succ]
        refine wpAnyH_take (i := 27) (oi := ⟨some 36, _, _, _, _, _⟩) (v := undef) rfl (by kernel_rfl) (by kernel_rfl) (by kernel_rfl) (fun _ _ _ h => h) (Or.inr ⟨by kernel_rfl, rfl⟩) hH ?_
        simp only [Act.put, List.setIfInBounds_toArray, List.set_cons_zero, List.set_cons_succ]
        refine wpAnyH_take (i := 28) (oi := ⟨some 37, _, _, _, _, _⟩) (v := undef) rfl (by kernel_rfl) (by kernel_rfl) (by kernel_rfl) (fun _ _ _ h => h) (Or.inr ⟨by kernel_rfl, rfl⟩) hH ?_
        simp only [Act.put, List.setIfInBounds_toArray, List.set_cons_zero, List.set_cons_succ]
        refine wpAnyH_take (i := 29) (oi := ⟨some 38, _, _, _, _, _⟩) (v := undef) rfl (by kernel_rfl) (by kernel_rfl) (by kernel_rfl) (fun _ _ _ h => h) (Or.inr ⟨by kernel_rfl, rfl⟩) hH ?_
        simp only [Act.put, List.setIfInBounds_toArray, List.set_cons_zero, List.set_cons_succ]
        refine wpAnyH_take (i := 30) (oi := ⟨some 39, _, _, _, _, _⟩) (v := undef) rfl (by kernel_rfl) (by kernel_rfl) (by kernel_rfl) (fun _ _ _ h => h) (Or.inr ⟨by kernel_rfl, rfl⟩) hH ?_
        simp only [Act.put, List.setIfInBounds_toArray, List.set_cons_zero, List.set_cons_succ]
        refine wpAnyH_take (i := 31) (oi := ⟨some 40, _, _, _, _, _⟩) (v := undef) rfl (by kernel_rfl) (by kernel_rfl) (by kernel_rfl) (fun _ _ _ h => h) (Or.inr ⟨by kernel_rfl, rfl⟩) hH ?_
        simp only [Act.put, List.setIfInBounds_toArray, List.set_cons_zero, List.set_cons_succ]
        refine wpAnyH_take (i := 32) (oi := ⟨some 41, _, _, _, _, _⟩) (v := ?_) rfl (by kernel_rfl) (by kernel_rfl) (by kernel_rfl) (fun _ _ _ h => h) (Or.inl ⟨by kernel_rfl, ?_⟩) hH ?_
        rotate_left 1
        · intro wq hq; have hq1 := hq.1; first | (go_simp; done) | (go_simp; with_reducible rfl)
        simp only [Act.put, List.setIfInBounds_toArray, List.set_cons_zero, List.set_cons_succ]
        refine wpAnyH_take (i := 33) (oi := ⟨some 6, _, _, _, _, _⟩) (v := ?_) rfl (by kernel_rfl) (by kernel_rfl) (by kernel_rfl) (fun _ _ _ h => h) (Or.inl ⟨by kernel_rfl, ?_⟩) hH ?_
        rotate_left 1
        · intro wq hq; have hq1 := hq.1; first | (go_simp; done) | (go_simp; with_reducible rfl)
        simp only [Act.put, List.setIfInBounds_toArray, List.set_cons_zero, List.set_cons_succ]
        refine wpAnyH_done (by kernel_rfl) ?_ _
        go_wp2_with fail
        go_ret
        exact ⟨ret_bool HA.out.symm, hH.2⟩
    · have HA : Hid (ramAll n x k = false) := by show _ = _; unfold ramAll; rw [hr]; simp [hk]; omega
      clear hr
      have hwr : IntKind.u64.wrap ((n : Int) * 4096 - k) = n * 4096 - k + 18446744073709551616 := by rw [IntKind.wrap_u64]; omega
      have hd1 : decide (x - 2147483648 ≤ (n : Int) * 4096 - k + 18446744073709551616) = true := by simp; omega
      have hd2 : decide (k ≤ (n : Int) * 4096) = false := by simpa using hkn
      clear hkn
      go_enter Try.func65, Try.ntmps65
      go_wp2_with fail
      refine wp_region_held_drew (S := fun w' => w'.cell? ⟨b, 0, none⟩ = some (.int .i64 n) ∧ Below w.heap.size w w') (by kernel_rfl) ⟨c0, (Below.refl _ _).drew⟩ (fun hH => ?_)
      refine wpAnyH_take (i := 0) (oi := ⟨some 9, _, _, _, _, _⟩) (v := ?_) rfl (by kernel_rfl) (by kernel_rfl) (by kernel_rfl) (fun _ _ _ h => h) (Or.inl ⟨by kernel_rfl, ?_⟩) hH ?_
      rotate_left 1
      · intro wq hq; have hq1 := hq.1; first | (go_simp; done) | (go_simp; with_reducible rfl)
      simp only [Act.put, List.setIfInBounds_toArray, List.set_cons_zero, List.set_cons_succ]
      refine wpAnyH_take (i := 1) (oi := ⟨some 10, _, _, _, _, _⟩) (v := ?_) rfl (by kernel_rfl) (by kernel_rfl) (by kernel_rfl) (fun _ _ _ h => h) (Or.inl ⟨by kernel_rfl, ?_⟩) hH ?_
      rotate_left 1
      · intro wq hq; have hq1 := hq.1; first | (go_simp; done) | (go_simp; with_reducible rfl)
      simp only [Act.put, List.setIfInBounds_toArray, List.set_cons_zero, List.set_cons_succ]
      refine wpAnyH_take (i := 2) (oi := ⟨some 11, _, _, _, _, _⟩) (v := ?_) rfl (by kernel_rfl) (by kernel_rfl) (by kernel_rfl) (fun _ _ _ h => h) (Or.inl ⟨by kernel_rfl, ?_⟩) hH ?_
      rotate_left 1
      · intro wq hq; have hq1 := hq.1; first | (go_simp; done) | (go_simp; with_reducible rfl)
      simp only [Act.put, List.setIfInBounds_toArray, List.set_cons_zero, List.set_cons_succ]
      refine wpAnyH_take (i := 3) (oi := ⟨some 12, _, _, _, _, _⟩) (v := ?_) rfl (by kernel_rfl) (by kernel_rfl) (by kernel_rfl) (fun _ _ _ h => h) (Or.inl ⟨by kernel_rfl, ?_⟩) hH ?_
      rotate_left 1
      · intro wq hq; have hq1 := hq.1; first | (go_simp; done) | (go_simp; with_reducible rfl)
      simp only [Act.put, List.setIfInBounds_toArray, List.set_cons_zero, List.set_cons_succ]
      refine wpAnyH_take (i := 4) (oi := ⟨some 13, _, _, _, _, _⟩) (v := ?_) rfl (by kernel_rfl) (by kernel_rfl) (by kernel_rfl) (fun _ _ _ h => h) (Or.inl ⟨by kernel_rfl, ?_⟩) hH ?_
      rotate_left 1
      · intro wq hq; have hq1 := hq.1; first | (go_simp; done) | (go_simp; with_reducible rfl)
      simp only [Act.put, List.setIfInBounds_toArray, List.set_cons_zero, List.set_cons_succ]
      refine wpAnyH_ready (rs := [5]) (by kernel_rfl) (by simp) (AllReadyH.cons (o := ⟨some 14, _, _, _, _, _⟩) rfl (fun K hK => ?_) AllReadyH.nil)
      go_simp
      refine (HC.out _).mono ?_
      rintro e w1 ⟨rfl, hb1⟩
      go_wp2_with fail
      refine hK.out _ _ ?_ (fun hH => ?_)
      · have hs := hH.2.size; exact ⟨(hb1.cell (p := ⟨b, 0, none⟩) (by first | omega | (simp; omega))).trans hH.1, below_then hH.2 hb1 hH.2.size⟩
      clear hK K
      try simp only [Act.put, List.setIfInBounds_toArray, List.set_cons_zero, List.set_cons_succ]
      refine wpAnyH_take (i := 6) (oi := ⟨some 15, _, _, _, _, _⟩) (v := ?_) rfl (by kernel_rfl) (by kernel_rfl) (by kernel_rfl) (fun _ _ _ h => h) (Or.inl ⟨by kernel_rfl, ?_⟩) hH ?_
      rotate_left 1
      · intro wq hq; have hq1 := hq.1; first | (go_simp; done) | (go_simp; with_reducible rfl)
      simp only [Act.put, List.setIfInBounds_toArray, List.set_cons_zero, List.set_cons_succ]
      refine wpAnyH_take (i := 7) (oi := ⟨some 16, _, _, _, _, _⟩) (v := ?_) rfl (by kernel_rfl) (by kernel_rfl) (by kernel_rfl) (fun _ _ _ h => h) (Or.inl ⟨by kernel_rfl, ?_⟩) hH ?_
      rotate_left 1
      · intro wq hq; have hq1 := hq.1; first | (go_simp; done) | (go_simp; with_reducible rfl)
      simp only [Act.put, List.setIfInBounds_toArray, List.set_cons_zero, List.set_cons_succ]
      refine wpAnyH_take (i := 8) (oi := ⟨some 17, _, _, _, _, _⟩) (v := ?_) rfl (by kernel_rfl) (by kernel_rfl) (by kernel_rfl) (fun _ _ _ h => h) (Or.inl ⟨by kernel_rfl, ?_⟩) hH ?_
      rotate_left 1
      · intro wq hq; have hq1 := hq.1; first | (go_simp; done) | (go_simp; with_reducible rfl)
      simp only [Act.put, List.setIfInBounds_toArray, List.set_cons_zero, List.set_cons_succ]
      refine wpAnyH_take (i := 9) (oi := ⟨some 18, _, _, _, _, _⟩) (v := ?_) rfl (by kernel_rfl) (by kernel_rfl) (by kernel_rfl) (fun _ _ _ h => h) (Or.inl ⟨by kernel_rfl, ?_⟩) hH ?_
      rotate_left 1
      · intro wq hq; have hq1 := hq.1; first | (go_simp; done) | (go_simp; with_reducible rfl)
      simp only [Act.put, List.setIfInBounds_toArray, List.set_cons_zero, List.set_cons_succ]
      refine wpAnyH_take (i := 10) (oi := ⟨some 19, _, _, _, _, _⟩) (v := ?_) rfl (by kernel_rfl) (by kernel_rfl) (by kernel_rfl) (fun _ _ _ h => h) (Or.inl ⟨by kernel_rfl, ?_⟩) hH ?_
      rotate_left 1
      · intro wq hq; have hq1 := hq.1; first | (go_simp; done) | (go_simp; with_reducible rfl)
      simp only [Act.put, List.setIfInBounds_toArray, List.set_cons_zero, List.set_cons_succ]
      refine wpAnyH_take (i := 11) (oi := ⟨some 20, _, _, _, _, _⟩) (v := ?_) rfl (by kernel_rfl) (by kernel_rfl) (by kernel_rfl) (fun _ _ _ h => h) (Or.inl ⟨by kernel_rfl, ?_⟩) hH ?_
      rotate_left 1
      · intro wq hq; have hq1 := hq.1; first | (go_simp; done) | (go_simp; with_reducible rfl)
      simp only [Act.put, List.setIfInBounds_toArray, List.set_cons_zero, List.set_cons_succ]
      refine wpAnyH_take (i := 13) (oi := ⟨some 22, _, _, _, _, _⟩) (v := ?_) rfl (by kernel_rfl) (by kernel_rfl) (by kernel_rfl) (fun _ _ _ h => h) (Or.inl ⟨by kernel_rfl, ?_⟩) hH ?_
      rotate_left 1
      · intro wq hq; have hq1 := hq.1; first | (go_simp; done) | (go_simp; with_reducible rfl)
      simp only [Act.put, List.setIfInBounds_toArray, List.set_cons_zero, List.set_cons_succ]
      refine wpAnyH_take (i := 14) (oi := ⟨some 23, _, _, _, _, _⟩) (v := ?_) rfl (by kernel_rfl) (by kernel_rfl) (by kernel_rfl) (fun _ _ _ h => h) (Or.inl ⟨by kernel_rfl, ?_⟩) hH ?_
      rotate_left 1
      · intro wq hq; have hq1 := hq.1; first | (go_simp; done) | (go_simp; with_reducible rfl)
      simp only [Act.put, List.setIfInBounds_toArray, List.set_cons_zero, List.set_cons_succ]
      refine wpAnyH_take (i := 15) (oi := ⟨some 24, _, _, _, _, _⟩) (v := ?_) rfl (by kernel_rfl) (by kernel_rfl) (by kernel_rfl) (fun _ _ _ h => h) (Or.inl ⟨by kernel_rfl, ?_⟩) hH ?_
      rotate_left 1
      · intro wq hq; have hq1 := hq.1; first | (go_simp; done) | (go_simp; with_reducible rfl)
      simp only [Act.put, List.setIfInBounds_toArray, List.set_cons_zero, List.set_cons_succ]
      refine wpAnyH_take (i := 16) (oi := ⟨some 25, _, _, _, _, _⟩) (v := ?_) rfl (by kernel_rfl) (by kernel_rfl) (by kernel_rfl) (fun _ _ _ h => h) (Or.inl ⟨by kernel_rfl, ?_⟩) hH ?_
      rotate_left 1
      · intro wq hq; have hq1 := hq.1; first | (go_simp; done) | (go_simp; with_reducible rfl)
      simp only [Act.put, List.setIfInBounds_toArray, List.set_cons_zero, List.set_cons_succ]
      refine wpAnyH_take (i := 17) (oi := ⟨some 26, _, _, _, _, _⟩) (v := ?_) rfl (by kernel_rfl) (by kernel_rfl) (by kernel_rfl) (fun _ _ _ h => h) (Or.inl ⟨by kernel_rfl, ?_⟩) hH ?_
      rotate_left 1
      · intro wq hq; have hq1 := hq.1; first | (go_simp; done) | (go_simp; with_reducible rfl)
      simp only [Act.put, List.setIfInBounds_toArray, List.set_cons_zero, List.set_cons_succ]
      refine wpAnyH_take (i := 18) (oi := ⟨some 27, _, _, _, _, _⟩) (v := ?_) rfl (by kernel_rfl) (by kernel_rfl) (by kernel_rfl) (fun _ _ _ h => h) (Or.inl ⟨by kernel_rfl, ?_⟩) hH ?_
      rotate_left 1
      · intro wq hq; have hq1 := hq.1; first | (go_simp; done) | (go_simp; with_reducible rfl)
      simp only [Act.put, List.setIfInBounds_toArray, List.set_cons_zero, List.set_cons_succ]
      refine wpAnyH_take (i := 19) (oi := ⟨some 28, _, _, _, _, _⟩) (v := ?_) rfl (by kernel_rfl) (by kernel_rfl) (by kernel_rfl) (fun _ _ _ h => h) (Or.inl ⟨by kernel_rfl, ?_⟩) hH ?_
      rotate_left 1
      · intro wq hq; have hq1 := hq.1; first | (go_simp; done) | (go_simp; with_reducible rfl)
      simp only [Act.put, List.setIfInBounds_toArray, List.set_cons_zero, List.set_cons_succ]
      refine wpAnyH_take (i := 20) (oi := ⟨some 29, _, _, _, _, _⟩) (v := ?_) rfl (by kernel_rfl) (by kernel_rfl) (by kernel_rfl) (fun _ _ _ h => h) (Or.inl ⟨by kernel_rfl, ?_⟩) hH ?_
      rotate_left 1
      · intro wq hq; have hq1 := hq.1; first | (go_simp; done) | (go_simp; with_reducible rfl)
      simp only [Act.put, List.setIfInBounds_toArray, List.set_cons_zero, List.set_cons_succ]
      refine wpAnyH_take (i := 21) (oi := ⟨some 30, _, _, _, _, _⟩) (v := ?_) rfl (by kernel_rfl) (by kernel_rfl) (by kernel_rfl) (fun _ _ _ h => h) (Or.inl ⟨by kernel_rfl, ?_⟩) hH ?_
      rotate_left 1
      · intro wq hq; have hq1 := hq.1; first | (go_simp; done) | (go_simp; with_reducible rfl)
      simp only [Act.put, List.setIfInBounds_toArray, List.set_cons_zero, List.set_cons_succ]
      refine wpAnyH_ready (rs := [12]) (by kernel_rfl) (by simp) (AllReadyH.cons (o := ⟨some 21, _, _, _, _, _⟩) rfl (fun K hK => ?_) AllReadyH.nil)
      go_simp
      refine (HO.out _).mono ?_
      rintro e w2 ⟨rfl, hb2⟩
      go_wp2_with fail
      refine hK.out _ _ ?_ (fun hH => ?_)
      · have hs := hH.2.size; exact ⟨(hb2.cell (p := ⟨b, 0, none⟩) (by first | omega | (simp; omega))).trans hH.1, below_then hH.2 hb2 hH.2.size⟩
      clear hK K
      try simp only [Act.put, List.setIfInBounds_toArray, List.set_cons_zero, List.set_cons_succ]
      refine wpAnyH_take (i := 22) (oi := ⟨some 31, _, _, _, _, _⟩) (v := ?_) rfl (by kernel_rfl) (by kernel_rfl) (by kernel_rfl) (fun _ _ _ h => h) (Or.inl ⟨by kernel_rfl, ?_⟩) hH ?_
      rotate_left 1
      · intro wq hq; have hq1 := hq.1; first | (go_simp; done) | (go_simp; with_reducible rfl)
      simp only [Act.put, List.setIfInBounds_toArray, List.set_cons_zero, List.set_cons_succ]
      refine wpAnyH_take (i := 23) (oi := ⟨some 32, _, _, _, _, _⟩) (v := ?_) rfl (by kernel_rfl) (by kernel_rfl) (by kernel_rfl) (fun _ _ _ h => h) (Or.inl ⟨by kernel_rfl, ?_⟩) hH ?_
      rotate_left 1
      · intro wq hq; have hq1 := hq.1; first | (go_simp; done) | (go_simp; with_reducible rfl)
      simp only [Act.put, List.setIfInBounds_toArray, List.set_cons_zero, List.set_cons_succ]
      refine wpAnyH_take (i := 24) (oi := ⟨some 33, _, _, _, _, _⟩) (v := ?_) rfl (by kernel_rfl) (by kernel_rfl) (by kernel_rfl) (fun _ _ _ h => h) (Or.inl ⟨by kernel_rfl, ?_⟩) hH ?_
      rotate_left 1
      · intro wq hq; have hq1 := hq.1; first | (go_simp; done) | (go_simp; with_reducible rfl)
      simp only [Act.put, List.setIfInBounds_toArray, List.set_cons_zero, List.set_cons_succ]
      refine wpAnyH_take (i := 25) (oi := ⟨some 34, _, _, _, _, _⟩) (v := ?_) rfl (by kernel_rfl) (by kernel_rfl) (by kernel_rfl) (fun _ _ _ h => h) (Or.inl ⟨by kernel_rfl, ?_⟩) hH ?_
      rotate_left 1
      · intro wq hq; have hq1 := hq.1; first | (go_simp; done) | (go_simp; with_reducible rfl)
      simp only [Act.put, List.setIfInBounds_toArray, List.set_cons_zero, List.set_cons_succ]
      refine wpAnyH_take (i := 26) (oi := ⟨some 35, _, _, _, _, _⟩) (v := ?_) rfl (by kernel_rfl) (by kernel_rfl) (by kernel_rfl) (fun _ _ _ h => h) (Or.inl ⟨by kernel_rfl, ?_⟩) hH ?_
      rotate_left 1
      · intro wq hq; have hq1 := hq.1; first | (go_simp; done) | (go_simp; with_reducible rfl)
      simp only [Act.put, List.setIfInBounds_toArray, List.set_cons_zero, List.set_cons_succ]
      refine wpAnyH_take (i := 27) (oi := ⟨some 36, _, _, _, _, _⟩) (v := ?_) rfl (by kernel_rfl) (by kernel_rfl) (by kernel_rfl) (fun _ _ _ h => h) (Or.inl ⟨by kernel_rfl, ?_⟩) hH ?_
      rotate_left 1
      · intro wq hq; have hq1 := hq.1; first | (go_simp; done) | (go_simp; with_reducible rfl)
      simp only [Act.put, List.setIfInBounds_toArray, List.set_cons_zero, List.set_cons_succ]
      refine wpAnyH_take (i := 28) (oi := ⟨some 37, _, _, _, _, _⟩) (v := ?_) rfl (by kernel_rfl) (by kernel_rfl) (by kernel_rfl) (fun _ _ _ h => h) (Or.inl ⟨by kernel_rfl, ?_⟩) hH ?_
      rotate_left 1
      · intro wq hq; have hq1 := hq.1; first | (go_simp; done) | (go_simp; with_reducible rfl)
      simp only [Act.put, List.setIfInBounds_toArray, List.set_cons_zero, List.set_cons_succ]
      refine wpAnyH_take (i := 29) (oi := ⟨some 38, _, _, _, _, _⟩) (v := ?_) rfl (by kernel_rfl) (by kernel_rfl) (by kernel_rfl) (fun _ _ _ h => h) (Or.inl ⟨by kernel_rfl, ?_⟩) hH ?_
      rotate_left 1
      · intro wq hq; have hq1 := hq.1; first | (go_simp; done) | (go_simp; with_reducible rfl)
      simp only [Act.put, List.setIfInBounds_toArray, List.set_cons_zero, List.set_cons_succ]
      refine wpAnyH_take (i := 30) (oi := ⟨some 39, _, _, _, _, _⟩) (v := ?_) rfl (by kernel_rfl) (by kernel_rfl) (by kernel_rfl) (fun _ _ _ h => h) (Or.inl ⟨by kernel_rfl, ?_⟩) hH ?_
      rotate_left 1
      · intro wq hq; have hq1 := hq.1; first | (go_simp; done) | (go_simp; with_reducible rfl)
      simp only [Act.put, List.setIfInBounds_toArray, List.set_cons_zero, List.set_cons_succ]
      refine wpAnyH_take (i := 31) (oi := ⟨some 40, _, _, _, _, _⟩) (v := ?_) rfl (by kernel_rfl) (by kernel_rfl) (by kernel_rfl) (fun _ _ _ h => h) (Or.inl ⟨by kernel_rfl, ?_⟩) hH ?_
      rotate_left 1
      · intro wq hq; have hq1 := hq.1; first | (go_simp; done) | (go_simp; with_reducible rfl)
      simp only [Act.put, List.setIfInBounds_toArray, List.set_cons_zero, List.set_cons_succ]
      refine wpAnyH_take (i := 32) (oi := ⟨some 41, _, _, _, _, _⟩) (v := ?_) rfl (by kernel_rfl) (by kernel_rfl) (by kernel_rfl) (fun _ _ _ h => h) (Or.inl ⟨by kernel_rfl, ?_⟩) hH ?_
      rotate_left 1
      · intro wq hq; have hq1 := hq.1; first | (go_simp; done) | (go_simp; with_reducible rfl)
      simp only [Act.put, List.setIfInBounds_toArray, List.set_cons_zero, List.set_cons_succ]
      refine wpAnyH_take (i := 33) (oi := ⟨some 6, _, _, _, _, _⟩) (v := ?_) rfl (by kernel_rfl) (by kernel_rfl) (by kernel_rfl) (fun _ _ _ h => h) (Or.inl ⟨by kernel_rfl, ?_⟩) hH ?_
      rotate_left 1
      · intro wq hq; have hq1 := hq.1; first | (go_simp; done) | (go_simp; with_reducible rfl)
      simp only [Act.put, List.setIfInBounds_toArray, List.set_cons_zero, List.set_cons_succ]
      refine wpAnyH_done (by kernel_rfl) ?_ _
      go_wp2_with fail
      go_ret
      exact ⟨ret_bool HA.out.symm, hH.2⟩
end Go.Proofs.Ytefcdbpmpnmkjaa
end
section
set_option linter.unusedVariables false
set_option linter.unusedSimpArgs false
namespace Go.Proofs.Ytefcdbpmpnmkjaa
open Go.RowKit
/-- the same at RamAt -/
theorem ram_all_at {w : World} {b n : Nat} {ct : Nat → Nat} {S : Nat → Prop} (h : RamAt w b n ct S) (x : Int) (x0 : 0 ≤ x) (x1 : x < 18446744073709551616) (k : Int) (k0 : 0 ≤ k) (k1 : k < 9223372036854775808) :
    Calls Try.prog 65 #[.pointer (some ⟨b, 0, none⟩), .int .u64 x, .int .i64 k] w fun e w' => e = .returned (.bool (ramAll n x k)) ∧ Below w.heap.size w w' := by
  obtain ⟨m, pg, h, rfl⟩ := h
  exact ram_all h x x0 x1 k k0 k1
theorem ram_get_at {w : World} {b n : Nat} {ct : Nat → Nat} {S : Nat → Prop} (h : RamAt w b n ct S) (x : Int) (x0 : 0 ≤ x) (x1 : x < 1048576) :
    Calls Try.prog 69 #[.pointer (some ⟨b, 0, none⟩), .int .i64 x] w fun e w' => e = .returned (.int .u8 (ct x.toNat)) ∧ w = w' := by
  obtain ⟨m, pg, h, rfl⟩ := h
  exact ram_get h x x0 x1
theorem ram_set_at {w : World} {b n : Nat} {ct : Nat → Nat} {S : Nat → Prop} (h : RamAt w b n ct S) (x : Int) (x0 : 0 ≤ x) (x1 : x < 1048576) (v : Nat) (hv : v < 256) :
    Calls Try.prog 66 #[.pointer (some ⟨b, 0, none⟩), .int .i64 x, .int .u8 v] w fun e w' => e = .returned (.tuple #[]) ∧ RamTo w w' b n (updB ct x.toNat v) S := by
  obtain ⟨m, pg, h, rfl⟩ := h
  exact ram_set h x x0 x1 v hv
theorem RamAt.lo {w : World} {b n : Nat} {ct : Nat → Nat} {S : Nat → Prop} (h : RamAt w b n ct S) : 4 ≤ n ∧ n ≤ 256 := by
  obtain ⟨m, pg, h, rfl⟩ := h
  exact ⟨h.lo, h.hi⟩
theorem RamAt.bd {w : World} {b n : Nat} {ct : Nat → Nat} {S : Nat → Prop} (h : RamAt w b n ct S) (i : Nat) : ct i < 256 := by
  obtain ⟨m, pg, h, rfl⟩ := h
  exact h.bd i
theorem RamAt.at0 {w : World} {b n : Nat} {ct : Nat → Nat} {S : Nat → Prop} (h : RamAt w b n ct S) : w.cell? ⟨b, 0, none⟩ = some (.int .i64 n) := by
  obtain ⟨m, pg, h, rfl⟩ := h
  exact blk_cell h.at_ 0
theorem RamAt.drew {w : World} {b n : Nat} {ct : Nat → Nat} {S : Nat → Prop} (h : RamAt w b n ct S) : RamAt w.drew b n ct S := h.below (Below.refl _ _).drew
/-- the bytes from there on -/
def bytesAt (ct : Nat → Nat) (off k : Nat) : List Int := (List.range k).map fun i => (ct (off + i) : Int)
theorem bytesAt_len (ct : Nat → Nat) (off k : Nat) : (bytesAt ct off k).length = k := by simp [bytesAt]
theorem bytesAt_snoc (ct : Nat → Nat) (off k : Nat) : bytesAt ct off (k + 1) = bytesAt ct off k ++ [(ct (off + k) : Int)] := by simp [bytesAt, List.range_succ]
theorem bytesAt_bd {ct : Nat → Nat} (h : ∀ i, ct i < 256) (off k : Nat) : ∀ x ∈ bytesAt ct off k, 0 ≤ x ∧ x ≤ 255 := by
  intro x hx
  simp only [bytesAt, List.mem_map] at hx
  obtain ⟨i, _, rfl⟩ := hx
  have := h (off + i)
  omega
theorem bytesAt_getD (ct : Nat → Nat) (off k i : Nat) (h : i < k) : (bytesAt ct off k).getD i 0 = (ct (off + i) : Int) := by simp [bytesAt, List.getD, h]
/-- no bytes, and that error -/
def NoBytes (w : World) (k : Int) (e : Ending) (w' : World) : Prop := e = .returned (.tuple #[.slice none 0 0, .int .i64 k]) ∧ Below w.heap.size w w'
/-- those bytes in a slice of their own, no error -/
def OwnBytes (w : World) (n : Nat) (l : List Int) (e : Ending) (w' : World) : Prop := ∃ v, e = .returned (.tuple #[v, .int .i64 0]) ∧ w'.ownsRow w.heap.size 5 1 v n (l.map (Value.int .u8)) ∧ Below w.heap.size w w'
set_option maxRecDepth 100000 in
set_option maxHeartbeats 1000000 in
theorem ram_read_nil (x k : Int) (w : World) : Calls Try.prog 64 #[.pointer none, .int .u64 x, .int .i64 k] w (NoBytes w 2) := by
  have hB := Lib.hid (Below.refl w.heap.size w)
  go_enter Try.func64, Try.ntmps64
  go_wp2
  go_ret2
  exact ⟨rfl, hB.out⟩
set_option maxRecDepth 100000 in
set_option maxHeartbeats 1000000 in
theorem ram_read_neg (b : Nat) (x k : Int) (hk : k < 0) (w : World) : Calls Try.prog 64 #[.pointer (some ⟨b, 0, none⟩), .int .u64 x, .int .i64 k] w (NoBytes w 1) := by
  have hB := Lib.hid (Below.refl w.heap.size w)
  go_enter Try.func64, Try.ntmps64
  go_wp2
  go_ret2
  exact ⟨rfl, hB.out⟩
set_option maxRecDepth 100000 in
set_option maxHeartbeats 1000000 in
theorem ram_read_bus {w : World} {b n : Nat} {ct : Nat → Nat} {S : Nat → Prop} (h : RamAt w b n ct S) (x : Int) (x0 : 0 ≤ x) (x1 : x < 18446744073709551616) (k : Int) (k0 : 0 ≤ k) (k1 : k < 9223372036854775808) (ha : ramAll n x k = false) :
    Calls Try.prog 64 #[.pointer (some ⟨b, 0, none⟩), .int .u64 x, .int .i64 k] w (NoBytes w 6) := by
  have HA := Lib.hid (ram_all_at h x x0 x1 k k0 k1)
  rw [ha] at HA
  clear h ha x0 x1
  go_enter Try.func64, Try.ntmps64
  go_wp2_with fail
  refine HA.out.mono ?_
  rintro e w1 ⟨rfl, hb⟩
  have HB := Lib.hid hb
  clear hb
  go_wp2
  go_ret2
  exact ⟨rfl, HB.out⟩
set_option maxRecDepth 100000 in
set_option maxHeartbeats 2000000 in
theorem ram_read_ok {w : World} {b n : Nat} {ct : Nat → Nat} {S : Nat → Prop} (h : RamAt w b n ct S) (x : Int) (x0 : 0 ≤ x) (x1 : x < 18446744073709551616) (k : Nat) (ha : ramAll n x k = true) :
    Calls Try.prog 64 #[.pointer (some ⟨b, 0, none⟩), .int .u64 x, .int .i64 k] w (OwnBytes w k (bytesAt ct (x - 2147483648).toNat k)) := by
  have hlo := h.lo
  have hx : k = 0 ∨ (2147483648 ≤ x ∧ x - 2147483648 + k ≤ n * 4096) := by
    simp only [ramAll, isRam, Bool.or_eq_true, Bool.and_eq_true, decide_eq_true_eq] at ha
    omega
  have hk : (k : Int) ≤ 1048576 := by omega
  have HA := Lib.hid (ram_all_at h x x0 x1 k (by omega) (by omega))
  rw [ha] at HA
  have H := Lib.hid h
  have HX := Lib.hid hx
  have hn : (n : Int) ≤ 256 := by omega
  have HB0 := Lib.hid (bytesAt_snoc ct (x - 2147483648).toNat)
  have HL := Lib.hid (show bytesAt ct (x - 2147483648).toNat 0 = [] from rfl)
  clear h ha hx hlo
  generalize hO : (x - 2147483648).toNat = O at *
  have HO := Lib.hid hO
  clear hO
  go_enter Try.func64, Try.ntmps64
  go_wp2_with fail
  refine HA.out.mono ?_
  rintro e w1 ⟨rfl, hb⟩
  have HB := Lib.hid hb
  clear hb
  go_wp2_with fail
  go_loopw [8, 23] (fun v i wr => ∃ j : Nat, j ≤ k ∧ i = .int .i64 j ∧ wr.ownsRow w.heap.size 5 1 v j ((bytesAt ct O j).map (Value.int .u8)) ∧ Below w.heap.size w wr) (fun _ i _ => k - (intOf i).toNat)
  case atStart => exact ⟨0, by omega, rfl, by rw [HL.out]; exact World.ownsRow_nil _ _ _ _, HB.out⟩
  case round =>
    clear HB
    obtain ⟨j, hj, rfl, hown, hb⟩ := hrel
    have HW := Lib.hid hown
    have HBB := Lib.hid hb
    clear hown hb
    by_cases hlt : j < k
    · have hxx := HX.out
      have hp : IntKind.u64.wrap (x - 2147483648) = x - 2147483648 := by rw [IntKind.wrap_u64]; omega
      have hjj : (j : Int) < k := by omega
      have g0 : 0 ≤ x - 2147483648 := by omega
      have g1 : x - 2147483648 + j < 1048576 := by omega
      have HR := Lib.hid (H.out.below HBB.out)
      clear hxx hlt hj
      go_wp2_with fail
      refine (ram_get_at HR.out _ (by omega) (by omega)).mono ?_
      rintro e w2 ⟨rfl, rfl⟩
      have HO2 : Hid ((x - 2147483648 + (j : Int)).toNat = O + j) := by have := HO.out; show _ = _; omega
      rw [HO2.out]
      have hone : Hid (∀ u ∈ [Value.int .u8 (ct (O + j))], u.oneCell' = true) := by intro u hu; simp at hu; subst hu; rfl
      have hz : Hid (w.heap.size ≤ (wr.alloc (.cells #[Value.int .u8 (ct (O + j))] 5)).heap.size) := by have := HBB.out.size; show _ ≤ _; simp; omega
      go_wp2_with (at_builtin; refine wpList_app rfl _ _ 37 rfl w.heap.size 5 (.int .u8 0) 1 Try.underlying37 A_info5 rfl _ j _ rfl (HW.out.alloc _) _ _ _ [Value.int .u8 (ct (O + j))] rfl (src_one wr _ 5) hone.out (by omega) (by unfold maxLen; omega) hz.out ?_; intro v' w2 hown hg _; have HW2 := Lib.hid hown; have HG := Lib.hid hg; clear hown hg)
      all_goals
        refine ⟨⟨j + 1, by omega, by rw [Int.natCast_succ], ?_, ?_⟩, by simp [intOf]; omega⟩
        · rw [HB0.out, List.map_append]; exact HW2.out
        · exact own_base (HW.out.alloc _) HG.out (HBB.out.alloc HBB.out.size _) hz.out (Nat.le_refl _)
    · obtain rfl : j = k := by omega
      go_wp2
      go_ret2
      exact ⟨_, rfl, HW.out, HBB.out⟩
set_option maxRecDepth 100000 in
set_option maxHeartbeats 1000000 in
theorem ram_pages {w : World} {b n : Nat} {ct : Nat → Nat} {S : Nat → Prop} (h : RamAt w b n ct S) : Calls Try.prog 29 #[.pointer (some ⟨b, 0, none⟩)] w fun e w' => e = .returned (.int .i64 n) ∧ w = w' := by
  have c := h.at0
  clear h
  go_enter Try.func29, Try.ntmps29
  go_wp2
  go_ret
  exact ⟨rfl, rfl⟩
set_option maxRecDepth 100000 in
set_option maxHeartbeats 1000000 in
theorem ram_pages_nil (w : World) : Calls Try.prog 29 #[.pointer none] w fun e w' => e = .returned (.int .i64 0) ∧ w = w' := by
  go_enter Try.func29, Try.ntmps29
  go_wp2
  go_ret
  exact ⟨rfl, rfl⟩
end Go.Proofs.Ytefcdbpmpnmkjaa
end
