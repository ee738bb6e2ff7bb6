/- Memory as data: the pages' blocks, the map that leads to them, and what the bytes are (no walk). No condition. -/
import Derived.Test.YtebdbbpefmgooaaLib
import Derived.Maps.OwnOps
import Derived.Maps.RangeWalk
import Derived.Maps.Views
import Derived.Maps.Ext
set_option linter.unusedVariables false
set_option linter.unusedSimpArgs false
namespace Go.Proofs.Ytebdbbpefmgooaa
open Go.RowKit

/-! ### worlds of which only some blocks have turned -/
/-- what was there is as it was, but for the blocks of S -/
structure Turned (S : Nat → Prop) (w w' : World) : Prop where
  os : w'.os = w.os
  tape : w'.tape = w.tape
  output : w'.output = w.output
  size : w.heap.size ≤ w'.heap.size
  block : ∀ g, g < w.heap.size → ¬ S g → w'.heap[g]? = w.heap[g]?
theorem Turned.refl (S : Nat → Prop) (w : World) : Turned S w w := ⟨rfl, rfl, rfl, Nat.le_refl _, fun _ _ _ => rfl⟩
theorem Turned.trans {S S' : Nat → Prop} {a b c : World} (h : Turned S a b) (k : Turned S' b c) (hs : ∀ g, S' g → S g ∨ a.heap.size ≤ g) : Turned S a c :=
  ⟨k.os.trans h.os, k.tape.trans h.tape, k.output.trans h.output, Nat.le_trans h.size k.size, fun g hg hn => (k.block g (Nat.lt_of_lt_of_le hg h.size) (fun e => by
    rcases hs g e with e | e
    · exact hn e
    · omega)).trans (h.block g hg hn)⟩
theorem Turned.mono {S S' : Nat → Prop} {a b : World} (h : Turned S a b) (hs : ∀ g, S g → S' g) : Turned S' a b := ⟨h.os, h.tape, h.output, h.size, fun g hg hn => h.block g hg (fun e => hn (hs g e))⟩
theorem Turned.below {S : Nat → Prop} {a b : World} (h : Turned S a b) {B : Nat} (hB : B ≤ a.heap.size) (hs : ∀ g, S g → B ≤ g) : Below B a b :=
  ⟨h.os, h.tape, h.output, h.size, fun g hg => h.block g (by omega) (fun e => by have := hs g e; omega)⟩
theorem Turned.of_below {a b : World} (h : Below a.heap.size a b) (S : Nat → Prop) : Turned S a b := ⟨h.os, h.tape, h.output, h.size, fun g hg _ => h.block g hg⟩
theorem Turned.of_grown {a b : World} {g : Nat} (h : a.grownBy b (some g)) : Turned (· = g) a b := ⟨h.os, h.tape, h.output, h.size, fun k hk hn => h.block k hk (fun e => hn (Option.some.inj e))⟩
theorem Turned.drew {S : Nat → Prop} {a b : World} (h : Turned S a b) : Turned S a b.drew := ⟨h.os, h.tape, h.output, h.size, h.block⟩
theorem Turned.alloc {S : Nat → Prop} {a b : World} (h : Turned S a b) (o : Obj) : Turned S a (b.alloc o) := h.trans (S' := fun _ => False) (.of_below ((Below.refl _ _).alloc (Nat.le_refl _) o) _) (fun _ e => e.elim)
theorem Turned.keep {S : Nat → Prop} {a b : World} (h : Turned S a b) {g : Nat} {o : Obj} (hn : ¬ S g) (ho : a.heap[g]? = some o) : b.heap[g]? = some o := (h.block g (blk_lt ho) hn).trans ho
theorem Turned.set {S : Nat → Prop} {a b : World} (h : Turned S a b) {g : Nat} (hg : S g ∨ a.heap.size ≤ g) (o : Nat) (v : Value) : Turned S a (b.setCell ⟨g, o, none⟩ v) :=
  h.trans (S' := (· = g)) ⟨rfl, rfl, rfl, by simp [World.setCell], fun k _ hk => Below.heap_setCell _ _ _ _ (by simpa using hk)⟩ (by rintro _ rfl; exact hg)

/-! ### the page's map -/
/-- a page's place in the map: its block's number, -1 where there is none -/
def pgR (v : Value) : Option (DataW Unit × List MemPlace) :=
  match v with
  | .pointer (some ⟨g, 0, none⟩) => some (.lit (.int .i64 g), [])
  | .pointer none => some (.lit (.int .i64 (-1)), [])
  | _ => none
def pgV : Option Nat → Value | none => .pointer none | some g => .pointer (some ⟨g, 0, none⟩)
def pgI : Option Nat → Int | none => -1 | some g => g
theorem pgR_V (p : Option Nat) : pgR (pgV p) = some (.lit (.int .i64 (pgI p)), []) := by cases p <;> rfl
theorem pgR_inj {v : Value} {i : Int} {ps : List MemPlace} (h : pgR v = some (.lit (.int .i64 i), ps)) : ∃ p, v = pgV p ∧ i = pgI p := by
  unfold pgR at h
  split at h
  · cases h; exact ⟨some _, rfl, rfl⟩
  · cases h; exact ⟨none, rfl, rfl⟩
  · cases h
theorem pgI_inj {p q : Option Nat} (h : pgI p = pgI q) : p = q := by
  cases p <;> cases q <;> simp [pgI] at h ⊢ <;> omega
theorem pgI_nonneg (p : Option Nat) : (-1 : Int) ≤ pgI p := by cases p <;> simp [pgI] <;> omega
theorem keyI : Go.Maps.Keyed Try.prog 3 := Go.Maps.int_keyed Try.underlying3
def keyL (k : Nat) : Lit := .int .i64 k
theorem keyL_inj {k k' : Nat} (h : keyL k = keyL k') : k = k' := by unfold keyL at h; injection h with _ h; omega
theorem keyOf_nat {k : Nat} (h : k < 9223372036854775808) : keyOf Try.prog 3 (.int .i64 k) = some (keyL k) :=
  Go.Maps.keyOf_int_mk Try.underlying3 (by simp [Lit.wf, IntKind.min, IntKind.max, IntKind.signed, IntKind.bits]; omega)
/-- how many of the pages below n are there -/
def pgCount (pg : Nat → Option Nat) : Nat → Nat
  | 0 => 0
  | n + 1 => pgCount pg n + if (pg n).isSome then 1 else 0
theorem pgCount_le (pg : Nat → Option Nat) (n : Nat) : pgCount pg n ≤ n := by
  induction n with
  | zero => simp [pgCount]
  | succ n ih => unfold pgCount; split <;> omega
def pgSet (pg : Nat → Option Nat) (k g : Nat) : Nat → Option Nat := fun j => if j = k then some g else pg j
theorem pgCount_set_ge (pg : Nat → Option Nat) (k g n : Nat) (h : n ≤ k) : pgCount (pgSet pg k g) n = pgCount pg n := by
  induction n with
  | zero => rfl
  | succ n ih =>
    unfold pgCount
    rw [ih (by omega)]
    have : pgSet pg k g n = pg n := by unfold pgSet; rw [if_neg (by omega)]
    rw [this]
theorem pgCount_set (pg : Nat → Option Nat) (k g n : Nat) (h : k < n) (hn : pg k = none) : pgCount (pgSet pg k g) n = pgCount pg n + 1 := by
  induction n with
  | zero => omega
  | succ n ih =>
    unfold pgCount
    by_cases hk : k = n
    · subst hk
      rw [pgCount_set_ge _ _ _ _ (Nat.le_refl _), hn]
      simp [pgSet]
    · have : pgSet pg k g n = pg n := by unfold pgSet; rw [if_neg (by omega)]
      rw [ih (by omega), this]
      omega
/-- block m is the map of these pages -/
structure PgMap (w : World) (m : Nat) (pg : Nat → Option Nat) (D : DataW Unit) : Prop where
  own : w.ownsMap Try.prog 3 pgR m (pgCount pg 256) D
  isMap : Go.Maps.IsMap D
  get : ∀ k, D.atKey (keyL k) (.lit (.int .i64 (-1))) = .lit (.int .i64 (pgI (pg k)))
  has : ∀ kl, Go.Maps.has D kl = true → ∃ k, kl = keyL k ∧ k < 256 ∧ (pg k).isSome = true
theorem PgMap.new (w : World) : PgMap (w.alloc (.map #[] 0)) w.heap.size (fun _ => none) (.map []) := by
  refine ⟨(World.ownsMap_made w Try.prog 3 pgR).mono (Nat.zero_le _), Go.Maps.isMap_empty, fun k => rfl, fun kl h => ?_⟩
  cases h
theorem PgMap.kept {w w' : World} {m : Nat} {pg : Nat → Option Nat} {D : DataW Unit} (h : PgMap w m pg D) (hb : w'.heap[m]? = w.heap[m]?) : PgMap w' m pg D := by
  refine ⟨?_, h.isMap, h.get, h.has⟩
  obtain ⟨es, clock, h1, h2⟩ := h.own
  exact ⟨es, clock, hb.trans h1, h2⟩
theorem pg_zero (w : World) : (zeroValue 120).run Try.prog w = .ok (.pointer none) w := by kernel_rfl
theorem PgMap.lookup {w : World} {m : Nat} {pg : Nat → Option Nat} {D : DataW Unit} (h : PgMap w m pg D) {k : Nat} (hk : k < 256) :
    (Instr.lookup 112 (.map (some m)) (.int .i64 k) false).run Try.prog w = .ok (pgV (pg k)) w := by
  obtain ⟨v, ps, hrun, hv⟩ := h.own.lookup keyI Try.underlying112 (pg_zero w) (pgR_V none) (keyOf_nat (k := k) (by omega))
  have hg : D.atKey (keyL k) (.lit (.int .i64 (pgI none))) = .lit (.int .i64 (pgI (pg k))) := h.get k
  rw [hg] at hv
  obtain ⟨p, rfl, hp⟩ := pgR_inj hv
  rw [pgI_inj hp]
  exact hrun
theorem keyL_key (k : Nat) : Go.WideAt.IsKeyLit (keyL k) := trivial
/-- what the map is with page k put in -/
theorem PgMap.put {w w' : World} {m : Nat} {pg : Nat → Option Nat} {D : DataW Unit} (h : PgMap w m pg D) {k : Nat} (hk : k < 256) (hn : pg k = none) (g : Nat)
    (hown : w'.ownsMap Try.prog 3 pgR m (pgCount pg 256 + 1) (D.put (keyL k) (.lit (.int .i64 (pgI (some g)))))) : PgMap w' m (pgSet pg k g) (D.put (keyL k) (.lit (.int .i64 (pgI (some g))))) := by
  refine ⟨by rw [pgCount_set pg k g 256 hk hn]; exact hown, h.isMap.put _ _, fun j => ?_, fun kl hkl => ?_⟩
  · by_cases hj : j = k
    · subst hj
      rw [Go.Maps.atKey_put_same h.isMap (keyL_key j)]
      simp [pgSet]
    · rw [Go.Maps.atKey_put_other (fun e => hj (keyL_inj e)), h.get j]
      simp [pgSet, hj]
  · by_cases hj : kl = keyL k
    · exact ⟨k, hj, hk, by simp [pgSet]⟩
    · rw [Go.Maps.has_put_other hj] at hkl
      obtain ⟨j, rfl, h1, h2⟩ := h.has kl hkl
      exact ⟨j, rfl, h1, by unfold pgSet; split <;> simp_all⟩

/-! ### the bytes -/
set_option maxRecDepth 100000
def pageArr (f : Nat → Nat) : Array Value := ((List.range 4096).map fun j => Value.int .u8 (f j)).toArray
theorem pageArr_get (f : Nat → Nat) (j : Nat) (h : j < 4096) : (pageArr f)[j]? = some (.int .u8 (f j)) := by
  unfold pageArr
  simp [h]
theorem pageArr_size (f : Nat → Nat) : (pageArr f).size = 4096 := by simp [pageArr]
theorem pageArr_congr {f g : Nat → Nat} (h : ∀ j, j < 4096 → f j = g j) : pageArr f = pageArr g := by
  unfold pageArr
  congr 1
  apply List.map_congr_left
  intro j hj
  rw [h j (List.mem_range.1 hj)]
def updB (ct : Nat → Nat) (i v : Nat) : Nat → Nat := fun j => if j = i then v else ct j
theorem pageArr_set (f : Nat → Nat) (j v : Nat) (h : j < 4096) : (pageArr f).setIfInBounds j (.int .u8 v) = pageArr (updB f j v) := by
  apply Array.ext_getElem?
  intro i
  rw [Array.getElem?_setIfInBounds]
  by_cases hi : i < 4096
  · rw [pageArr_get (updB f j v) _ hi]
    by_cases e : j = i
    · subst e
      rw [if_pos rfl, if_pos (by rw [pageArr_size]; exact hi)]
      simp [updB]
    · rw [if_neg e, pageArr_get _ _ hi]
      have : updB f j v i = f i := by unfold updB; rw [if_neg (by omega)]
      rw [this]
  · have h1 : (pageArr f)[i]? = none := by rw [Array.getElem?_eq_none]; rw [pageArr_size]; omega
    have h2 : (pageArr (updB f j v))[i]? = none := by rw [Array.getElem?_eq_none]; rw [pageArr_size]; omega
    rw [h1, h2]
    split
    · rw [if_neg (by rw [pageArr_size]; omega)]
    · rfl
theorem pageArr_zero : madeCells #[(.int .u8 0)] 4096 = pageArr fun _ => 0 := by
  unfold madeCells pageArr
  apply Array.ext'
  simp [Array.toList_range]
  intro a ha
  simp [Nat.mod_one]

/-- block b is a memory of n pages; m, pg: its map and its pages; ct: what its bytes are -/
structure RamIs (w : World) (b m n : Nat) (pg : Nat → Option Nat) (ct : Nat → Nat) : Prop where
  at_ : w.heap[b]? = some (.cells #[.int .i64 n, .map (some m)] 114 (0, 0))
  lo : 4 ≤ n
  hi : n ≤ 256
  map : ∃ D, PgMap w m pg D
  page : ∀ k g, pg k = some g → w.heap[g]? = some (.cells (pageArr fun j => ct (4096 * k + j)) 122 (0, 0))
  zero : ∀ k, pg k = none → ∀ j, j < 4096 → ct (4096 * k + j) = 0
  inj : ∀ k k' g, pg k = some g → pg k' = some g → k = k'
  bd : ∀ i, ct i < 256
  small : ∀ k, (pg k).isSome = true → k < 256
/-- the blocks that a memory may turn -/
def RamOwn (m : Nat) (pg : Nat → Option Nat) (g : Nat) : Prop := g = m ∨ ∃ k, pg k = some g
/-- the same, the map and pages untold: S is the blocks that it may turn -/
def RamAt (w : World) (b n : Nat) (ct : Nat → Nat) (S : Nat → Prop) : Prop := ∃ m pg, RamIs w b m n pg ct ∧ S = RamOwn m pg
theorem RamIs.map_lt {w : World} {b m n : Nat} {pg : Nat → Option Nat} {ct : Nat → Nat} (h : RamIs w b m n pg ct) : m < w.heap.size := by
  obtain ⟨D, hD⟩ := h.map
  exact hD.own.lt
theorem RamIs.map_is {w : World} {b m n : Nat} {pg : Nat → Option Nat} {ct : Nat → Nat} (h : RamIs w b m n pg ct) : ∃ es c, w.heap[m]? = some (.map es c) := by
  obtain ⟨D, hD⟩ := h.map
  obtain ⟨es, c, h1, _⟩ := hD.own
  exact ⟨es, c, h1⟩
/-- it lies in blocks that are there -/
theorem RamAt.lt {w : World} {b n : Nat} {ct : Nat → Nat} {S : Nat → Prop} (h : RamAt w b n ct S) {g : Nat} (hg : S g) : g < w.heap.size := by
  obtain ⟨m, pg, h, rfl⟩ := h
  rcases hg with rfl | ⟨k, hk⟩
  · exact h.map_lt
  · exact blk_lt (h.page k g hk)
theorem RamAt.self {w : World} {b n : Nat} {ct : Nat → Nat} {S : Nat → Prop} (h : RamAt w b n ct S) : ¬ S b ∧ b < w.heap.size := by
  obtain ⟨m, pg, h, rfl⟩ := h
  refine ⟨?_, blk_lt h.at_⟩
  rintro (rfl | ⟨k, hk⟩)
  · obtain ⟨es, c, hm⟩ := h.map_is
    rw [h.at_] at hm
    cases hm
  · have h1 := h.page k b hk
    rw [h.at_] at h1
    injection h1 with h1
    injection h1 with h1
    have := congrArg Array.size h1
    rw [pageArr_size] at this
    simp at this
/-- what turns none of its blocks leaves it -/
theorem RamIs.keep {w w' : World} {b m n : Nat} {pg : Nat → Option Nat} {ct : Nat → Nat} (h : RamIs w b m n pg ct) (hb : ∀ g, g = b ∨ RamOwn m pg g → w'.heap[g]? = w.heap[g]?) : RamIs w' b m n pg ct := by
  refine ⟨(hb b (.inl rfl)).trans h.at_, h.lo, h.hi, ?_, fun k g hk => (hb g (.inr (.inr ⟨k, hk⟩))).trans (h.page k g hk), h.zero, h.inj, h.bd, h.small⟩
  obtain ⟨D, hD⟩ := h.map
  exact ⟨D, hD.kept (hb m (.inr (.inl rfl)))⟩
theorem RamAt.turned {w w' : World} {b n : Nat} {ct : Nat → Nat} {S T : Nat → Prop} (h : RamAt w b n ct S) (ht : Turned T w w') (hb : ¬ T b) (hd : ∀ g, S g → ¬ T g) : RamAt w' b n ct S := by
  have hlt := fun g (hg : S g) => h.lt hg
  have hself := h.self
  obtain ⟨m, pg, h, rfl⟩ := h
  refine ⟨m, pg, h.keep ?_, rfl⟩
  rintro g (rfl | hg)
  · exact ht.block _ hself.2 hb
  · exact ht.block _ (hlt g hg) (hd g hg)
theorem RamAt.below {w w' : World} {b n : Nat} {ct : Nat → Nat} {S : Nat → Prop} (h : RamAt w b n ct S) (hb : Below w.heap.size w w') : RamAt w' b n ct S :=
  h.turned (T := fun _ => False) (.of_below hb _) (fun e => e) (fun _ _ e => e)
theorem RamAt.ext {w : World} {b n : Nat} {ct ct' : Nat → Nat} {S : Nat → Prop} (h : RamAt w b n ct S) (he : ∀ i, ct i = ct' i) : RamAt w b n ct' S := by
  obtain rfl : ct = ct' := funext he
  exact h
end Go.Proofs.Ytebdbbpefmgooaa
