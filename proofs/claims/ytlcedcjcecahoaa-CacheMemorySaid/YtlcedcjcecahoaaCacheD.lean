/- A cache as data: lines, sets, and how they lie in memory; rules by which the walk loads a whole line. No condition. -/
import Derived.Test.YtlcedcjcecahoaaPlru
import Derived.Test.YtlcedcjcecahoaaRules
import Derived.Deep.MidRow
set_option linter.unusedVariables false
set_option linter.unusedSimpArgs false
namespace Go.Proofs.Ytlcedcjcecahoaa
open Go.RowKit
set_option maxRecDepth 100000
structure CLine where
  v : Bool
  d : Bool
  tag : Int
  data : Nat → Int
def CLine.zero : CLine := ⟨false, false, 0, fun _ => 0⟩
structure CLine.Ok (l : CLine) : Prop where
  tag : 0 ≤ l.tag ∧ l.tag < 18446744073709551616
  data : ∀ i, 0 ≤ l.data i ∧ l.data i ≤ 255
theorem CLine.zero_ok : CLine.zero.Ok := ⟨by simp [CLine.zero], fun i => by simp [CLine.zero]⟩
def lineCell (l : CLine) (i : Nat) : Value := if i = 0 then .bool l.v else if i = 1 then .bool l.d else if i = 2 then .int .u64 l.tag else .int .u8 (l.data (i - 3))
def lineVals (l : CLine) : List Value := (List.range 67).map (lineCell l)
def lineArr (l : CLine) : Array Value := (lineVals l).toArray
theorem lineArr_get (l : CLine) (i : Nat) (h : i < 67) : (lineArr l)[i]? = some (lineCell l i) := by simp [lineArr, lineVals, h]
theorem lineArr_size (l : CLine) : (lineArr l).size = 67 := by simp [lineArr, lineVals]
theorem la0 (l : CLine) : (lineArr l)[0]? = some (.bool l.v) := lineArr_get l 0 (by omega)
theorem la1 (l : CLine) : (lineArr l)[1]? = some (.bool l.d) := lineArr_get l 1 (by omega)
theorem la2 (l : CLine) : (lineArr l)[2]? = some (.int .u64 l.tag) := lineArr_get l 2 (by omega)
theorem lineCell_one (l : CLine) (i : Nat) : (lineCell l i).oneCell' = true := by
  unfold lineCell
  split
  · rfl
  split
  · rfl
  split <;> rfl
theorem lineArr_one (l : CLine) : (lineArr l).all (·.oneCell') = true := all_oneCell_toArray fun v hv => by
  simp only [lineVals, List.mem_map] at hv
  obtain ⟨i, _, rfl⟩ := hv
  exact lineCell_one l i
def wayCell (L : Nat → CLine) (i : Nat) : Value := lineCell (L (i / 67)) (i % 67)
theorem wayCell_at (L : Nat → CLine) (j i : Nat) (h : i < 67) : wayCell L (j * 67 + i) = lineCell (L j) i := by
  unfold wayCell
  rw [show (j * 67 + i) / 67 = j by omega, show (j * 67 + i) % 67 = i by omega]
def upL (L : Nat → CLine) (j : Nat) (l : CLine) : Nat → CLine := fun k => if k = j then l else L k
def setCellF (wb : Nat → Nat) (m : Nat) (st : Nat → Nat) (i : Nat) : Value := if i % 2 = 0 then .slice (some ⟨wb (i / 2), 0, none⟩) m m else .int .i64 (st (i / 2) : Nat)
theorem setCellF_0 (wb : Nat → Nat) (m : Nat) (st : Nat → Nat) (s : Nat) : setCellF wb m st (s * 2) = .slice (some ⟨wb s, 0, none⟩) m m := by
  unfold setCellF
  rw [if_pos (by omega), show s * 2 / 2 = s by omega]
theorem setCellF_1 (wb : Nat → Nat) (m : Nat) (st : Nat → Nat) (s : Nat) : setCellF wb m st (s * 2 + 1) = .int .i64 (st s : Nat) := by
  unfold setCellF
  rw [if_neg (by omega), show (s * 2 + 1) / 2 = s by omega]
def Sets (n : Nat) : Prop := n = 1 ∨ n = 2 ∨ n = 4 ∨ n = 8 ∨ n = 16
/-- b is a cache of n sets of m ways each; its lines, and the states of its trees -/
structure CacheIs (w : World) (b sb : Nat) (wb : Nat → Nat) (n m : Nat) (L : Nat → Nat → CLine) (st : Nat → Nat) : Prop where
  at_ : w.heap[b]? = some (.cells #[.slice (some ⟨sb, 0, none⟩) n n] 62 (0, 0))
  sets : w.rowIs sb 65 (n * 2) (setCellF wb m st)
  ways : ∀ s, s < n → w.rowIs (wb s) 76 (m * 67) (wayCell (L s))
  inj : ∀ s t, s < n → t < n → wb s = wb t → s = t
  hn : Sets n
  hm : Ways m
  hst : ∀ s, s < n → st s < 2 ^ (m - 1)
  ok : ∀ s j, (L s j).Ok
/-- the blocks that it may turn -/
def CacheOwn (sb : Nat) (wb : Nat → Nat) (n : Nat) (g : Nat) : Prop := g = sb ∨ ∃ s, s < n ∧ g = wb s
theorem CacheIs.below {w w' : World} {b sb : Nat} {wb : Nat → Nat} {n m : Nat} {L : Nat → Nat → CLine} {st : Nat → Nat} (h : CacheIs w b sb wb n m L st) (hb : Below w.heap.size w w') : CacheIs w' b sb wb n m L st :=
  ⟨(hb.block _ (blk_lt h.at_)).trans h.at_, h.sets.of_block (hb.block _ h.sets.lt), fun s hs => (h.ways s hs).of_block (hb.block _ (h.ways s hs).lt), h.inj, h.hn, h.hm, h.hst, h.ok⟩
theorem CacheIs.sb_ne {w : World} {b sb : Nat} {wb : Nat → Nat} {n m : Nat} {L : Nat → Nat → CLine} {st : Nat → Nat} (h : CacheIs w b sb wb n m L st) : b ≠ sb ∧ ∀ s, s < n → b ≠ wb s ∧ sb ≠ wb s := by
  have h1 := h.at_
  obtain ⟨c, h2, _⟩ := h.sets
  refine ⟨fun e => ?_, fun s hs => ?_⟩
  · subst e; rw [h1] at h2; cases h2
  · obtain ⟨c', h3, _⟩ := h.ways s hs
    refine ⟨fun e => ?_, fun e => ?_⟩
    · rw [e, h3] at h1; cases h1
    · rw [e, h3] at h2; cases h2
theorem CacheIs.turned {w w' : World} {b sb : Nat} {wb : Nat → Nat} {n m : Nat} {L : Nat → Nat → CLine} {st : Nat → Nat} (h : CacheIs w b sb wb n m L st) {T : Nat → Prop} (ht : Turned T w w') (hb : ¬ T b) (hT : ∀ g, CacheOwn sb wb n g → ¬ T g) : CacheIs w' b sb wb n m L st :=
  ⟨(ht.block _ (blk_lt h.at_) hb).trans h.at_, h.sets.of_block (ht.block _ h.sets.lt (hT _ (.inl rfl))), fun s hs => (h.ways s hs).of_block (ht.block _ (h.ways s hs).lt (hT _ (.inr ⟨s, hs, rfl⟩))), h.inj, h.hn, h.hm, h.hst, h.ok⟩
/-! the whole of a line in one step -/
def loadL (x : Value) : Sem Value := Instr.loadAt 76 x
theorem ld_line (x : Value) : Instr.loadAt 76 x = loadL x := rfl
def storeL (x v : Value) : Sem Unit := Instr.storeAt 76 x v
theorem st_line (x v : Value) : Instr.storeAt 76 x v = storeL x v := rfl
def lineAt (w : World) (g o : Nat) : Array Value := ((List.range 67).map fun i => (w.cell? ⟨g, o + i, none⟩).getD undef).toArray
def lineThere (w : World) (g o : Nat) : Bool := (List.range 67).all fun i => (w.cell? ⟨g, o + i, none⟩).isSome && !w.frozen? ⟨g, o + i, none⟩
theorem lineThere_range {w : World} {g o : Nat} (h : lineThere w g o = true) : w.rangeAt g o (lineAt w g o).toList := fun j v hv => by
  have hj : j < 67 := by have := (List.getElem?_eq_some_iff.1 hv).1; simpa [lineAt] using this
  have h1 := List.all_eq_true.1 h j (List.mem_range.2 hj)
  simp only [Bool.and_eq_true] at h1
  obtain ⟨u, hu⟩ := Option.isSome_iff_exists.1 h1.1
  simp [lineAt, hj, hu] at hv
  rw [hu, hv]
theorem lineAt_size (w : World) (g o : Nat) : (lineAt w g o).size = 67 := by simp [lineAt]
theorem rl_line (w : World) (g o : Nat) (h : lineThere w g o = true) : (loadL (.pointer (some ⟨g, o, none⟩))).run Try.prog w = .ok (.agg (lineAt w g o)) w := by
  have := run_loadAt_mid (P := Try.prog) w g o 76 (lineAt w g o).toList _ (lineThere_range h) Try.underlying76 rfl (by rw [Array.length_toList, lineAt_size]; kernel_rfl)
  unfold loadL
  simpa using this
theorem way_there {w : World} {g m : Nat} {L : Nat → CLine} (h : w.rowIs g 76 (m * 67) (wayCell L)) {j : Nat} (hj : j < m) : lineThere w g (j * 67) = true := by
  refine List.all_eq_true.2 fun i hi => ?_
  have hi := List.mem_range.1 hi
  rw [h.cell (show j * 67 + i < m * 67 by have := Nat.mul_le_mul_right 67 (show j + 1 ≤ m from hj); omega), h.frozen]
  rfl
theorem way_line {w : World} {g m : Nat} {L : Nat → CLine} (h : w.rowIs g 76 (m * 67) (wayCell L)) {j : Nat} (hj : j < m) : lineAt w g (j * 67) = lineArr (L j) := by
  unfold lineAt lineArr lineVals
  congr 1
  refine List.map_congr_left fun i hi => ?_
  have hi := List.mem_range.1 hi
  rw [h.cell (show j * 67 + i < m * 67 by have := Nat.mul_le_mul_right 67 (show j + 1 ≤ m from hj); omega), wayCell_at _ _ _ hi]
  rfl
theorem way_there0 {w : World} {g m : Nat} {L : Nat → CLine} (h : w.rowIs g 76 (m * 67) (wayCell L)) (hj : 0 < m) : lineThere w g 0 = true := by have := way_there h hj; simpa using this
end Go.Proofs.Ytlcedcjcecahoaa
