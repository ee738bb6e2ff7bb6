/- Rules by which the walk loads and stores a whole struct in one step: a block told by its row of cells. No condition. Contracts of tappethelp.Own, Same, Plain, Kept, CopyBytes. No condition. -/
import Derived.Test.YtoiffpoffnlebaaDoorPack1
import Derived.Laws.Rows
import Derived.Laws.Tables
import Derived.Deep.OwnRows
import Derived.StillTailTactics
import Derived.BigRegion
import Derived.Deep.RegionWith
import Derived.Deep.RegionHeld3
import Derived.Deep.QuietTactic
import Derived.BigQuiet
import Derived.Deep.LoopGhost
import Derived.Deep.DeepCutAuto
import Derived.Deep.DeepFit
import Derived.Deep.DeepMust
import Derived.Handy
section
set_option linter.unusedVariables false
set_option linter.unusedSimpArgs false
namespace Go.Proofs.YtoiffpoffnlebaaDoor
open Go.RowKit

/-- the cells of block g -/
def rowOf (w : World) (g : Nat) : Array Value := match w.heap[g]? with | some (.cells c _ _) => c | _ => #[]
/-- block g has n cells, none of them frozen -/
def rowIs (w : World) (g n : Nat) : Bool := match w.heap[g]? with | some (.cells c _ (lo, hi)) => c.size == n && lo == 0 && hi == 0 | _ => false
def loadS (t : TypeId) (x : Value) : Sem Value := Instr.loadAt t x
def storeS (t : TypeId) (x v : Value) : Sem Unit := Instr.storeAt t x v
theorem rowIs_of {w : World} {g : Nat} {C : Array Value} {t : TypeId} (h : w.heap[g]? = some (.cells C t (0, 0))) : rowIs w g C.size = true := by simp [rowIs, h]
theorem rowOf_of {w : World} {g : Nat} {C : Array Value} {t : TypeId} {fz : Nat × Nat} (h : w.heap[g]? = some (.cells C t fz)) : rowOf w g = C := by simp [rowOf, h]
theorem rowIs_elim {w : World} {g n : Nat} (h : rowIs w g n = true) : ∃ t, w.heap[g]? = some (.cells (rowOf w g) t (0, 0)) ∧ (rowOf w g).size = n := by
  unfold rowIs at h
  split at h
  · rename_i c t lo hi hh
    simp at h
    obtain ⟨⟨h1, h2⟩, h3⟩ := h
    subst h2 h3
    exact ⟨t, by rw [rowOf_of hh]; exact hh, by rw [rowOf_of hh]; exact h1⟩
  · cases h
theorem run_loadS (P : Program) (ty : TypeId) (d : TypeDesc) (n : Nat) (hu : P.underlying ty = some d) (hd : (match d with | .struct _ | .array _ _ => true | _ => false) = true) (hi : (P.info? ty).map (·.size) = some n)
    (w : World) (g : Nat) (h : rowIs w g n = true) : (loadS ty (.pointer (some ⟨g, 0, none⟩))).run P w = .ok (.agg (rowOf w g)) w := by
  obtain ⟨t, hh, hs⟩ := rowIs_elim h
  have := run_loadVar_row (P := P) w g t ty (rowOf w g) (0, 0) d hh hu hd (by rw [hs]; exact hi)
  simp only [loadS, Instr.loadAt, Instr.sureAddr, Sem.run_bind, Sem.run_pure, Result.andThen_ok, this]
theorem run_storeS (P : Program) (ty : TypeId) (n : Nat) (hi : (P.info? ty).map (·.size) = some n)
    (w : World) (g : Nat) (C : Array Value) (h : rowIs w g n = true) (hC : C.size = n) (h1 : C.all (·.oneCell') = true) : (storeS ty (.pointer (some ⟨g, 0, none⟩)) (.agg C)).run P w = .ok () (w.setRow g C) := by
  obtain ⟨t, hh, hs⟩ := rowIs_elim h
  have := run_storeVar_row (P := P) w g t ty (rowOf w g) C hh (by rw [hC]; exact hi) (by rw [hC]; exact hs) h1
  simp only [storeS, Instr.storeAt, Instr.sureAddr, Sem.run_bind, Sem.run_pure, Result.andThen_ok, this]

/-! what a world's steps do to rows -/
theorem row_alloc_new (w : World) (C : Array Value) (t : TypeId) (fz : Nat × Nat) : rowOf (w.alloc (.cells C t fz)) w.heap.size = C := rowOf_of (blk_alloc w _)
theorem row_alloc_old (w : World) (o : Obj) (g : Nat) (h : g < w.heap.size) : rowOf (w.alloc o) g = rowOf w g := by unfold rowOf; rw [blk_alloc_old w o g h]
theorem row_drew (w : World) (g : Nat) : rowOf w.drew g = rowOf w g := rfl
theorem row_drewN (w : World) (n g : Nat) : rowOf (w.drewN n) g = rowOf w g := rfl
theorem is_alloc_new (w : World) (C : Array Value) (t : TypeId) (n : Nat) : rowIs (w.alloc (.cells C t)) w.heap.size n = (C.size == n) := by unfold rowIs; rw [blk_alloc]; simp
theorem is_alloc_old (w : World) (o : Obj) (g n : Nat) (h : g < w.heap.size) : rowIs (w.alloc o) g n = rowIs w g n := by unfold rowIs; rw [blk_alloc_old w o g h]
theorem is_drew (w : World) (g n : Nat) : rowIs w.drew g n = rowIs w g n := rfl
theorem is_drewN (w : World) (k g n : Nat) : rowIs (w.drewN k) g n = rowIs w g n := rfl
theorem row_setCell (w : World) (b o : Nat) (v : Value) (g : Nat) : rowOf (w.setCell ⟨b, o, none⟩ v) g = if b = g then (rowOf w g).setIfInBounds o v else rowOf w g := by
  by_cases h : b = g
  · subst h
    rw [if_pos rfl]
    unfold rowOf
    simp only [World.setCell, Array.getElem?_modify, if_true]
    cases hh : w.heap[b]? with
    | none => simp
    | some ob => cases ob <;> simp
  · rw [if_neg h]
    unfold rowOf
    rw [blk_set_ne _ _ h]
theorem is_setCell (w : World) (a : Addr) (v : Value) (g n : Nat) : rowIs (w.setCell a v) g n = rowIs w g n := by
  by_cases h : a.block = g
  · subst h
    unfold rowIs
    simp only [World.setCell, Array.getElem?_modify, if_true]
    cases hh : w.heap[a.block]? with
    | none => simp
    | some ob => cases ob <;> simp; split <;> simp
  · unfold rowIs
    rw [blk_set_ne _ _ h]
theorem row_setRow_same (w : World) (g n : Nat) (C : Array Value) (h : rowIs w g n = true) : rowOf (w.setRow g C) g = C := by
  obtain ⟨t, hh, _⟩ := rowIs_elim h
  exact rowOf_of (setRow_heap w g _ C t (0, 0) hh)
theorem row_setRow_other (w : World) (g k : Nat) (C : Array Value) (h : k ≠ g) : rowOf (w.setRow g C) k = rowOf w k := by unfold rowOf; rw [setRow_other w g k C h]
theorem is_setRow_other (w : World) (g k n : Nat) (C : Array Value) (h : k ≠ g) : rowIs (w.setRow g C) k n = rowIs w k n := by unfold rowIs; rw [setRow_other w g k C h]
theorem is_setRow_same (w : World) (g m n : Nat) (C : Array Value) (h : rowIs w g m = true) : rowIs (w.setRow g C) g n = (C.size == n) := by
  obtain ⟨t, hh, _⟩ := rowIs_elim h
  simp [rowIs, setRow_heap w g _ C t (0, 0) hh]
/-- a row stored into the block laid last: in that block's own literal -/
theorem setRow_alloc_new (w : World) (C D : Array Value) (t : TypeId) (fz : Nat × Nat) : (w.alloc (.cells C t fz)).setRow w.heap.size D = w.alloc (.cells D t fz) := by
  simp only [World.setRow, World.alloc]
  congr 1
  apply Array.ext_getElem?
  intro i
  rw [Array.getElem?_modify, Array.getElem?_push, Array.getElem?_push]
  by_cases h : w.heap.size = i
  · subst h; simp
  · rw [if_neg h, if_neg (by omega), if_neg (by omega)]
/-- the cells of an object -/
def objRow : Obj → Array Value | .cells c _ _ => c | _ => #[]
def objIs (n : Nat) : Obj → Bool | .cells c _ (lo, hi) => c.size == n && lo == 0 && hi == 0 | _ => false
theorem objRow_cells (C : Array Value) (t : TypeId) (fz : Nat × Nat) : objRow (.cells C t fz) = C := rfl
theorem objIs_cells (n : Nat) (C : Array Value) (t : TypeId) : objIs n (.cells C t) = (C.size == n) := by simp [objIs]
theorem row_alloc (w : World) (o : Obj) (g : Nat) : rowOf (w.alloc o) g = if g = w.heap.size then objRow o else rowOf w g := by
  by_cases h : g = w.heap.size
  · subst h; rw [if_pos rfl]; unfold rowOf; rw [blk_alloc]; cases o <;> rfl
  · rw [if_neg h]
    unfold rowOf
    have : (w.alloc o).heap[g]? = w.heap[g]? := by
      show (w.heap.push o)[g]? = _
      rw [Array.getElem?_push, if_neg h]
    rw [this]
theorem is_alloc (w : World) (o : Obj) (g n : Nat) : rowIs (w.alloc o) g n = if g = w.heap.size then objIs n o else rowIs w g n := by
  by_cases h : g = w.heap.size
  · subst h; rw [if_pos rfl]; unfold rowIs; rw [blk_alloc]; cases o <;> rfl
  · rw [if_neg h]
    unfold rowIs
    have : (w.alloc o).heap[g]? = w.heap[g]? := by
      show (w.heap.push o)[g]? = _
      rw [Array.getElem?_push, if_neg h]
    rw [this]
/-- each value is of one cell -/
def oneAll (C : Array Value) : Bool := C.all (·.oneCell')
/-- a row that fills n cells -/
def stOk (n : Nat) (C : Array Value) : Bool := C.size == n && C.all (·.oneCell')
theorem run_storeS' (P : Program) (ty : TypeId) (n : Nat) (hi : (P.info? ty).map (·.size) = some n)
    (w : World) (g : Nat) (C : Array Value) (h : rowIs w g n = true) (hC : stOk n C = true) : (storeS ty (.pointer (some ⟨g, 0, none⟩)) (.agg C)).run P w = .ok () (w.setRow g C) := by
  simp only [stOk, Bool.and_eq_true, beq_iff_eq] at hC
  exact run_storeS P ty n hi w g C h hC.1 hC.2
theorem run_loadV (P : Program) (ty : TypeId) (d : TypeDesc) (n : Nat) (hu : P.underlying ty = some d) (hd : (match d with | .struct _ | .array _ _ => true | _ => false) = true) (hi : (P.info? ty).map (·.size) = some n)
    (w : World) (g : Nat) (C : Array Value) (h : rowIs w g n = true) (hC : rowOf w g = C) : (loadVar ty ⟨g, 0, none⟩).run P w = .ok (.agg C) w := by
  obtain ⟨t, hh, hs⟩ := rowIs_elim h
  have := run_loadVar_row (P := P) w g t ty (rowOf w g) (0, 0) d hh hu hd (by rw [hs]; exact hi)
  rw [this, hC]
section
variable {fn : Func} {a p b : Tmp} {ty : TypeId} (tmps : Array Value) (P : Program) (w : World) (g : Nat) (C : Array Value)
  (hp : tmps.getD p undef = .pointer (some ⟨g, 0, none⟩)) (hl : (loadVar ty ⟨g, 0, none⟩).run P w = .ok (.agg C) w)
include hp hl
theorem res_c (h : fn.results = #[.cell p ty]) : (results fn tmps).run P w = .ok (.agg C) w := by
  have hp' : tmps[p]?.getD undef = .pointer (some ⟨g, 0, none⟩) := by simpa using hp
  simp [results, h, hp', asAddr, hl]
theorem res_ct (h : fn.results = #[.cell p ty, .tmp b]) : (results fn tmps).run P w = .ok (.tuple #[.agg C, tmps.getD b undef]) w := by
  have hp' : tmps[p]?.getD undef = .pointer (some ⟨g, 0, none⟩) := by simpa using hp
  simp [results, h, hp', asAddr, hl]
theorem res_tct (h : fn.results = #[.tmp a, .cell p ty, .tmp b]) : (results fn tmps).run P w = .ok (.tuple #[tmps.getD a undef, .agg C, tmps.getD b undef]) w := by
  have hp' : tmps[p]?.getD undef = .pointer (some ⟨g, 0, none⟩) := by simpa using hp
  simp [results, h, hp', asAddr, hl]
end
/-! quiet calls behind draws -/
theorem q_same {P : Program} {f : FuncId} {args : Array Value} {w : World} {a n : Nat} {v : Value} (h : Calls P f args (w.drewN (a + n)) fun e w' => e = .returned v ∧ w' = w.drewN (a + n)) :
    Calls P f args (w.drewN (a + n)) fun e w' => e = .returned v ∧ ∃ m, w' = w.drewN (a + m) := h.mono fun _ _ hh => ⟨hh.1, n, hh.2⟩
theorem q_draws {P : Program} {f : FuncId} {args : Array Value} {w : World} {a n : Nat} {v : Value} (h : Calls P f args (w.drewN (a + n)) fun e w' => e = .returned v ∧ ∃ m, w' = (w.drewN (a + n)).drewN m) :
    Calls P f args (w.drewN (a + n)) fun e w' => e = .returned v ∧ ∃ m, w' = w.drewN (a + m) := h.mono fun _ _ hh => by
  obtain ⟨h1, m, h2⟩ := hh
  exact ⟨h1, n + m, by rw [h2, World.drewN_drewN, Nat.add_assoc]⟩
end Go.Proofs.YtoiffpoffnlebaaDoor
end
section
set_option linter.unusedVariables false
set_option linter.unusedSimpArgs false
namespace Go.Proofs.YtoiffpoffnlebaaDoor
open Go.RowKit

/-! ### byte -/
set_option maxRecDepth 100000 in
set_option maxHeartbeats 4000000 in
theorem own_u8 (a : Option Addr) (m c : Nat) (V : Nat → Int) (fill : Int) (w : World) (hn : a = none → c = 0) (hle : m ≤ c) (hm : (m : Int) ≤ 140737488351232) (hr : IsRow w a m (fun i => Value.int .u8 (V i))) :
    Calls Tryd.prog 5 #[.slice a m c, Value.int .u8 fill] w fun e w' => e = .returned (.slice (some ⟨w.heap.size, 0, none⟩) m (m + 3)) ∧ w'.rowIs w.heap.size 5 (m + 3) (fun i => Value.int .u8 (if i < m then V i else fill)) ∧ Below w.heap.size w w' := by
  have hmk : ∀ wq, (Instr.makeSlice 22 (.int .i64 0) (.int .i64 ((m : Int) + 3))).run Tryd.prog wq = .ok (.slice (some ⟨wq.heap.size, 0, none⟩) 0 (m + 3)) (wq.alloc (.cells (madeCells #[.int .u8 0] (m + 3)) 5)) := fun wq => by
    obtain ⟨i, hi, hzz⟩ := Option.map_eq_some_iff.1 A_info5
    simp only [Prod.mk.injEq] at hzz
    obtain ⟨hz, hsz, hb⟩ := hzz
    have := run_make (P := Tryd.prog) (w := wq) 22 5 i _ Tryd.underlying22 hi hz .i64 .i64 0 ((m : Int) + 3) (by omega) (by omega) (by rw [hb]; omega) (by omega)
    rw [this, hsz, show ((m : Int) + 3).toNat = m + 3 by omega, Nat.mul_one]
    rfl
  obtain ⟨inf, hinf, hzz⟩ := Option.map_eq_some_iff.1 A_info5
  simp only [Prod.mk.injEq] at hzz
  have HI := Lib.hid (And.intro hinf hzz)
  clear hinf hzz
  have HR := Lib.hid hr
  have HN := Lib.hid (And.intro hn hle)
  clear hr hn hle
  have hlen : Hid (((List.range m).map fun i => Value.int .u8 (V i)).length = m * 1) := by show _ = _; simp
  have hone : Hid (∀ u ∈ (List.range m).map fun i => Value.int .u8 (V i), u.oneCell' = true) := by
    intro u hu
    simp only [List.mem_map] at hu
    obtain ⟨i, _, rfl⟩ := hu
    rfl
  have hsrc : Hid (∀ ad, a = some ad → ∀ j u, ((List.range m).map fun i => Value.int .u8 (V i))[j]? = some u → (w.alloc (.cells (madeCells #[.int .u8 0] (m + 3)) 5)).cell? (ad.add j) = some u) := by
    intro ad he j u hu
    have hj : j < m := by have := (List.getElem?_eq_some_iff.1 hu).1; simpa using this
    obtain ⟨b, o, h1, h2, h3⟩ := HR.out (by omega)
    rw [h1] at he
    obtain rfl := Option.some.inj he
    rw [addr_add, World.cell?_alloc_lt _ _ _ h2, h3 j hj, ← hu]
    simp [hj]
  have hown0 : Hid ((w.alloc (.cells (madeCells #[.int .u8 0] (m + 3)) 5)).ownsRow w.heap.size 5 1 (.slice (some ⟨w.heap.size, 0, none⟩) 0 (m + 3)) 0 []) := by
    refine ⟨rfl, .inr ⟨w.heap.size, m + 3, madeCells #[.int .u8 0] (m + 3), rfl, Nat.le_refl _, blk_alloc _ _, Nat.zero_le _, ?_, ?_, rfl⟩⟩
    · unfold maxLen; omega
    · simp [madeCells]
  go_enter Tryd.func5, Tryd.ntmps5
  go_wp2_with (at_builtin; refine wpList_append_fits_any _ rfl _ _ 22 rfl w.heap.size 5 inf 1 Tryd.underlying22 HI.out.1 HI.out.2.2.1 w.heap.size 0 (m + 3) [] rfl hown0.out a m c _ rfl hlen.out (fun h => ⟨by have := HN.out.1 h; have := HN.out.2; omega, HN.out.1 h⟩) hsrc.out hone.out (by omega) ?_; intro w1 hown hg; have HO := Lib.hid hown; have HG := Lib.hid hg; clear hown hg hmk)
  obtain ⟨cur, hh, hsz, ht⟩ : ∃ cur : Array Value, w1.heap[w.heap.size]? = some (.cells cur 5 (0, 0)) ∧ cur.size = m + 3 ∧ ∀ i, i < m → cur[i]? = some (Value.int .u8 (V i)) := by
    rcases HO.out.2 with ⟨h, _⟩ | ⟨g, cap, cur, h, _, hh, _, _, hs, ht⟩
    · cases h
    · injection h with h1 _ h3
      injection h1 with h1
      injection h1 with h1
      subst h1
      subst h3
      refine ⟨cur, hh, by simpa using hs, fun i hi => ?_⟩
      have h4 := congrArg (fun l => l[i]?) ht
      simp [List.getElem?_take, hi] at h4
      simpa [show i < 0 + m by omega] using h4
  obtain ⟨q0, c0⟩ : ∃ q, w1.cell? ⟨w.heap.size, m, none⟩ = some q := ⟨cur[m]'(by omega), by rw [blk_cell hh]; simp⟩
  obtain ⟨q1, c1⟩ : ∃ q, w1.cell? ⟨w.heap.size, m + 1, none⟩ = some q := ⟨cur[m + 1]'(by omega), by rw [blk_cell hh]; simp⟩
  obtain ⟨q2, c2⟩ : ∃ q, w1.cell? ⟨w.heap.size, m + 2, none⟩ = some q := ⟨cur[m + 2]'(by omega), by rw [blk_cell hh]; simp⟩
  have f0 : w1.frozen? ⟨w.heap.size, m, none⟩ = false := blk_frozen hh _
  have f1 : w1.frozen? ⟨w.heap.size, m + 1, none⟩ = false := blk_frozen hh _
  have f2 : w1.frozen? ⟨w.heap.size, m + 2, none⟩ = false := blk_frozen hh _
  have HH := Lib.hid hh
  have HT := Lib.hid (And.intro hsz ht)
  clear hh hsz ht
  go_wp2_with fail
  go_rounds 4
  go_ret
  refine ⟨rfl, ⟨_, blk_set (blk_set (blk_set HH.out m (Value.int .u8 fill)) (m + 1) (Value.int .u8 fill)) (m + 2) (Value.int .u8 fill), by simp [HT.out.1], fun i hi => ?_⟩, ?_⟩
  · rw [Array.getElem?_setIfInBounds, Array.getElem?_setIfInBounds, Array.getElem?_setIfInBounds]
    simp only [Array.size_setIfInBounds, HT.out.1]
    by_cases h2 : m + 2 = i
    · subst h2; rw [if_pos rfl, if_pos (by omega), if_neg (by omega)]
    · rw [if_neg h2]
      by_cases h1 : m + 1 = i
      · subst h1; rw [if_pos rfl, if_pos (by omega), if_neg (by omega)]
      · rw [if_neg h1]
        by_cases h0 : m = i
        · subst h0; rw [if_pos rfl, if_pos (by omega), if_neg (by omega)]
        · rw [if_neg h0, HT.out.2 i (by omega), if_pos (by omega)]
  · have hB : Below w.heap.size w w1 := ((Below.refl w.heap.size w).alloc (Nat.le_refl _) _).grown HG.out (by simp) (by rintro k ⟨⟩; exact Nat.le_refl _)
    exact ((hB.setCell (Nat.le_refl _) _).setCell (Nat.le_refl _) _).setCell (Nat.le_refl _) _

set_option maxRecDepth 100000 in
set_option maxHeartbeats 2000000 in
theorem eq_u8 (x y : Int) (w : World) : Calls Tryd.prog 30 #[Value.int .u8 x, Value.int .u8 y] w fun e w' => e = .returned (.bool (x == y)) ∧ w = w' := by
  go_enter Tryd.func30, Tryd.ntmps30
  go_wp2
  go_ret
  exact ⟨ret_bool (by first | rfl | (simp; done)), rfl⟩
set_option maxRecDepth 100000 in
set_option maxHeartbeats 4000000 in
/-- two lists that are alike -/
theorem same_u8 (a1 a2 : Option Addr) (m c1 c2 : Nat) (V : Nat → Int) (w : World) (hm : (m : Int) ≤ 9223372036854775807) (h1 : IsRow w a1 m (fun i => Value.int .u8 (V i))) (h2 : IsRow w a2 m (fun i => Value.int .u8 (V i))) :
    Calls Tryd.prog 29 #[.slice a1 m c1, .slice a2 m c2, .func (.func 30) #[] #[]] w fun e w' => e = .returned (.bool true) ∧ ∃ k, w' = w.drewN k := by
  have H1 := Lib.hid h1
  have H2 := Lib.hid h2
  clear h1 h2
  go_enter Tryd.func29, Tryd.ntmps29
  go_wp2_with fail
  go_loopw [7] (fun i wr => ∃ k : Nat, (k : Int) ≤ m ∧ i = .int .i64 k ∧ ∃ q, wr = w.drewN q) (fun i _ => m - (intOf i).toNat)
  case atStart => exact ⟨0, by omega, rfl, 0, rfl⟩
  case round =>
    obtain ⟨k, hk, rfl, q, rfl⟩ := hrel
    by_cases hlt : (k : Int) < m
    · clear hk
      obtain ⟨b1, o1, rfl, _, hc1⟩ := H1.out (by omega)
      obtain ⟨b2, o2, rfl, _, hc2⟩ := H2.out (by omega)
      have e1 : w.cell? ⟨b1, o1 + k, none⟩ = some (Value.int .u8 (V k)) := hc1 k (by omega)
      have e2 : w.cell? ⟨b2, o2 + k, none⟩ = some (Value.int .u8 (V k)) := hc2 k (by omega)
      clear hc1 hc2
      generalize V k = x at *
      have hxx : (x == x) = true := by simp
      go_wp2_with fail
      refine wp_region_held_drew (S := fun w' => w'.cell? ⟨b1, o1 + k, none⟩ = some (Value.int .u8 x) ∧ w'.cell? ⟨b2, o2 + k, none⟩ = some (Value.int .u8 x) ∧ ∃ q, w' = w.drewN q) (by kernel_rfl) ⟨e1, e2, q + 1, rfl⟩ (fun hH => ?_)
      refine wpAnyH_take (i := 0) (oi := ⟨some 19, _, _, _, _, _⟩) (v := ?_) rfl (by kernel_rfl) (by kernel_rfl) (by kernel_rfl) (fun _ _ _ h => h) (Or.inl ⟨by kernel_rfl, ?_⟩) hH ?_
      rotate_left 1
      · intro wq hq; have hq1 := hq.1; have hq2 := hq.2.1; first | (go_simp; done) | (go_simp; with_reducible rfl)
      simp only [Act.put, List.setIfInBounds_toArray, List.set_cons_zero, List.set_cons_succ]
      refine wpAnyH_take (i := 1) (oi := ⟨some 20, _, _, _, _, _⟩) (v := ?_) rfl (by kernel_rfl) (by kernel_rfl) (by kernel_rfl) (fun _ _ _ h => h) (Or.inl ⟨by kernel_rfl, ?_⟩) hH ?_
      rotate_left 1
      · intro wq hq; have hq1 := hq.1; have hq2 := hq.2.1; first | (go_simp; done) | (go_simp; with_reducible rfl)
      simp only [Act.put, List.setIfInBounds_toArray, List.set_cons_zero, List.set_cons_succ]
      refine wpAnyH_take (i := 2) (oi := ⟨some 21, _, _, _, _, _⟩) (v := ?_) rfl (by kernel_rfl) (by kernel_rfl) (by kernel_rfl) (fun _ _ _ h => h) (Or.inl ⟨by kernel_rfl, ?_⟩) hH ?_
      rotate_left 1
      · intro wq hq; have hq1 := hq.1; have hq2 := hq.2.1; first | (go_simp; done) | (go_simp; with_reducible rfl)
      simp only [Act.put, List.setIfInBounds_toArray, List.set_cons_zero, List.set_cons_succ]
      refine wpAnyH_take (i := 3) (oi := ⟨some 22, _, _, _, _, _⟩) (v := ?_) rfl (by kernel_rfl) (by kernel_rfl) (by kernel_rfl) (fun _ _ _ h => h) (Or.inl ⟨by kernel_rfl, ?_⟩) hH ?_
      rotate_left 1
      · intro wq hq; have hq1 := hq.1; have hq2 := hq.2.1; first | (go_simp; done) | (go_simp; with_reducible rfl)
      simp only [Act.put, List.setIfInBounds_toArray, List.set_cons_zero, List.set_cons_succ]
      refine wpAnyH_take (i := 4) (oi := ⟨some 23, _, _, _, _, _⟩) (v := ?_) rfl (by kernel_rfl) (by kernel_rfl) (by kernel_rfl) (fun _ _ _ h => h) (Or.inl ⟨by kernel_rfl, ?_⟩) hH ?_
      rotate_left 1
      · intro wq hq; have hq1 := hq.1; have hq2 := hq.2.1; first | (go_simp; done) | (go_simp; with_reducible rfl)
      simp only [Act.put, List.setIfInBounds_toArray, List.set_cons_zero, List.set_cons_succ]
      refine wpAnyH_take (i := 5) (oi := ⟨some 24, _, _, _, _, _⟩) (v := ?_) rfl (by kernel_rfl) (by kernel_rfl) (by kernel_rfl) (fun _ _ _ h => h) (Or.inl ⟨by kernel_rfl, ?_⟩) hH ?_
      rotate_left 1
      · intro wq hq; have hq1 := hq.1; have hq2 := hq.2.1; first | (go_simp; done) | (go_simp; with_reducible rfl)
      simp only [Act.put, List.setIfInBounds_toArray, List.set_cons_zero, List.set_cons_succ]
      refine wpAnyH_take (i := 6) (oi := ⟨some 25, _, _, _, _, _⟩) (v := ?_) rfl (by kernel_rfl) (by kernel_rfl) (by kernel_rfl) (fun _ _ _ h => h) (Or.inl ⟨by kernel_rfl, ?_⟩) hH ?_
      rotate_left 1
      · intro wq hq; have hq1 := hq.1; have hq2 := hq.2.1; first | (go_simp; done) | (go_simp; with_reducible rfl)
      simp only [Act.put, List.setIfInBounds_toArray, List.set_cons_zero, List.set_cons_succ]
      refine wpAnyH_take (i := 7) (oi := ⟨some 26, _, _, _, _, _⟩) (v := ?_) rfl (by kernel_rfl) (by kernel_rfl) (by kernel_rfl) (fun _ _ _ h => h) (Or.inl ⟨by kernel_rfl, ?_⟩) hH ?_
      rotate_left 1
      · intro wq hq; have hq1 := hq.1; have hq2 := hq.2.1; first | (go_simp; done) | (go_simp; with_reducible rfl)
      simp only [Act.put, List.setIfInBounds_toArray, List.set_cons_zero, List.set_cons_succ]
      refine wpAnyH_take (i := 8) (oi := ⟨some 27, _, _, _, _, _⟩) (v := ?_) rfl (by kernel_rfl) (by kernel_rfl) (by kernel_rfl) (fun _ _ _ h => h) (Or.inl ⟨by kernel_rfl, ?_⟩) hH ?_
      rotate_left 1
      · intro wq hq; have hq1 := hq.1; have hq2 := hq.2.1; first | (go_simp; done) | (go_simp; with_reducible rfl)
      simp only [Act.put, List.setIfInBounds_toArray, List.set_cons_zero, List.set_cons_succ]
      refine wpAnyH_ready (rs := [9]) (by kernel_rfl) (by simp) (AllReadyH.cons (o := ⟨some 28, _, _, _, _, _⟩) rfl (fun K hK => ?_) AllReadyH.nil)
      go_simp
      refine (eq_u8 x x _).mono ?_
      rintro e w1 ⟨rfl, rfl⟩
      go_wp2_with fail
      refine hK.out _ _ hH (fun hH => ?_)
      clear hK K
      try simp only [Act.put, List.setIfInBounds_toArray, List.set_cons_zero, List.set_cons_succ]
      refine wpAnyH_take (i := 10) (oi := ⟨some 29, _, _, _, _, _⟩) (v := ?_) rfl (by kernel_rfl) (by kernel_rfl) (by kernel_rfl) (fun _ _ _ h => h) (Or.inl ⟨by kernel_rfl, ?_⟩) hH ?_
      rotate_left 1
      · intro wq hq; have hq1 := hq.1; have hq2 := hq.2.1; first | (go_simp; done) | (go_simp; with_reducible rfl)
      simp only [Act.put, List.setIfInBounds_toArray, List.set_cons_zero, List.set_cons_succ]
      refine wpAnyH_done (by kernel_rfl) ?_ _
      go_wp2_with fail
      exact ⟨⟨k + 1, by omega, by rw [Int.natCast_succ], _, rfl⟩, by simp [intOf]; omega⟩
    · obtain rfl : k = m := by omega
      go_wp2_with fail
      go_ret
      exact ⟨rfl, q, rfl⟩
set_option maxRecDepth 100000 in
set_option maxHeartbeats 2000000 in
theorem plain_u8 (a1 a2 : Option Addr) (m c1 c2 : Nat) (V : Nat → Int) (w : World) (hm : (m : Int) ≤ 9223372036854775807) (h1 : IsRow w a1 m (fun i => Value.int .u8 (V i))) (h2 : IsRow w a2 m (fun i => Value.int .u8 (V i))) :
    Calls Tryd.prog 21 #[.slice a1 m c1, .slice a2 m c2] w fun e w' => e = .returned (.bool true) ∧ ∃ k, w' = w.drewN k := by
  have H := Lib.hid (same_u8 a1 a2 m c1 c2 V w hm h1 h2)
  clear h1 h2
  go_enter Tryd.func21, Tryd.ntmps21
  go_wp2_with fail
  refine H.out.mono ?_
  rintro e w1 ⟨rfl, k, rfl⟩
  go_wp2_with fail
  go_ret
  exact ⟨rfl, k, rfl⟩
set_option maxRecDepth 100000 in
set_option maxHeartbeats 2000000 in
/-- the copy and the room behind it are as they were -/
theorem kept_u8 (a : Option Addr) (m c g : Nat) (V : Nat → Int) (fill : Int) (w : World) (hm : (m : Int) ≤ 140737488351232) (ho : w.rowIs g 5 (m + 3) (fun i => Value.int .u8 (if i < m then V i else fill))) (hr : IsRow w a m (fun i => Value.int .u8 (V i))) :
    Calls Tryd.prog 11 #[.slice (some ⟨g, 0, none⟩) m (m + 3), .slice a m c, Value.int .u8 fill] w fun e w' => e = .returned (.bool true) ∧ ∃ k, w' = w.drewN k := by
  have HP := Lib.hid (plain_u8 (some ⟨g, 0, none⟩) a m (m + 3) c V w (by omega) (fun hn => ⟨g, 0, rfl, ho.lt, fun i hi => by rw [Nat.zero_add, ho.cell (by omega), if_pos hi]⟩) hr)
  have c0 : w.cell? ⟨g, m, none⟩ = some (Value.int .u8 fill) := by rw [ho.cell (by omega), if_neg (by omega)]
  have c1 : w.cell? ⟨g, m + 1, none⟩ = some (Value.int .u8 fill) := by rw [ho.cell (by omega), if_neg (by omega)]
  have c2 : w.cell? ⟨g, m + 2, none⟩ = some (Value.int .u8 fill) := by rw [ho.cell (by omega), if_neg (by omega)]
  clear ho hr
  go_enter Tryd.func11, Tryd.ntmps11
  go_wp2_with fail
  refine HP.out.mono ?_
  rintro e w1 ⟨rfl, k, rfl⟩
  clear HP
  go_wp2_with fail
  go_rounds 4
  go_ret
  exact ⟨rfl, k, rfl⟩
end Go.Proofs.YtoiffpoffnlebaaDoor
end
