/- The law SocNil's walk. No condition. api.Input and api.Ask that came in by value: their shapes. No condition. -/
import Derived.Test.YtefcdbpmpnmkjaaPack6
import Derived.StillTailTactics
import Derived.BigRegion
import Derived.Deep.RegionWith
import Derived.Deep.RegionHeld3
import Derived.Deep.QuietTactic
import Derived.BigQuiet
import Derived.Deep.DeepFit
import Derived.Deep.DeepMust
import Derived.Handy
import Derived.Test.YtefcdbpmpnmkjaaPack3
import Derived.Lib.SmallJoins
import Derived.Deep.Slices
import Derived.Deep.Fields
import Derived.Deep.MidRow
import Derived.ProofKit
import Derived.OpenShut
import Derived.ChangeOld
section
set_option linter.unusedVariables false
set_option linter.unusedSimpArgs false
namespace Go.Proofs.Ytefcdbpmpnmkjaa
open Go.RowKit
set_option maxRecDepth 100000
set_option maxHeartbeats 4000000 in
theorem soc_nil_law (l rx q2 q3 pa size v : Int) (a0 a1 a2 a3 a4 : Int) (q5 q6 : Option Addr) (n5 m5 n6 m6 : Nat) (a7 : Int) (w : World) :
    Calls Try.prog 6 #[.agg #[.int .i64 l, .int .i64 rx, .int .i64 q2, .int .i64 q3], .int .u64 pa, .int .i64 size, .int .u64 v, .agg #[.int .i64 a0, .int .i64 a1, .int .i64 a2, .int .u64 a3, .int .i64 a4, .slice q5 n5 m5, .slice q6 n6 m6, .int .i64 a7]] w fun e w' => e = .returned (.bool true) ∧ Below w.heap.size w w' := by
  have HTI := Lib.hid (soc_tick_nil l rx q2 q3)
  have HRD := Lib.hid (soc_read_nil pa size)
  have HWR := Lib.hid (soc_write_nil pa size v)
  have HSV := Lib.hid (soc_serve_nil a0 a1 a2 a3 a4 q5 q6 n5 m5 n6 m6 a7)
  have HB0 : Hid (∀ o p, Below w.heap.size w ((w.alloc o).alloc p)) := fun o p => base2 w o p
  go_enter Try.func6, Try.ntmps6
  go_wp2_with fail
  refine (HTI.out _).mono ?_
  rintro e w1 ⟨rfl, hb⟩
  have HB1 : Hid (Below w.heap.size w w1) := (HB0.out _ _).trans (hb.mono (by simp; omega))
  have hA : w1.heap[w.heap.size + 1]? = some (.cells #[.int .i64 a0, .int .i64 a1, .int .i64 a2, .int .u64 a3, .int .i64 a4, .slice q5 n5 m5, .slice q6 n6 m6, .int .i64 a7] 43 (0, 0)) := by
    refine (hb.block _ (by simp)).trans ?_
    have e : (w.alloc (.cells #[.int .i64 l, .int .i64 rx, .int .i64 q2, .int .i64 q3] 31)).heap.size = w.heap.size + 1 := by simp
    rw [← e]
    exact blk_alloc _ _
  have k0 : w1.cell? ⟨w.heap.size + 1, 0, none⟩ = some (.int .i64 a0) := blk_cell hA 0
  have k1 : w1.cell? ⟨w.heap.size + 1, 1, none⟩ = some (.int .i64 a1) := blk_cell hA 1
  have k2 : w1.cell? ⟨w.heap.size + 1, 2, none⟩ = some (.int .i64 a2) := blk_cell hA 2
  have k3 : w1.cell? ⟨w.heap.size + 1, 3, none⟩ = some (.int .u64 a3) := blk_cell hA 3
  have k4 : w1.cell? ⟨w.heap.size + 1, 4, none⟩ = some (.int .i64 a4) := blk_cell hA 4
  have k5 : w1.cell? ⟨w.heap.size + 1, 5, none⟩ = some (.slice q5 n5 m5) := blk_cell hA 5
  have k6 : w1.cell? ⟨w.heap.size + 1, 6, none⟩ = some (.slice q6 n6 m6) := blk_cell hA 6
  have k7 : w1.cell? ⟨w.heap.size + 1, 7, none⟩ = some (.int .i64 a7) := blk_cell hA 7
  clear hA hb
  go_wp2_with fail
  refine (HRD.out _).mono ?_
  rintro e w2 ⟨rfl, rfl⟩
  go_wp2_with fail
  refine (HSV.out _).mono ?_
  rintro e w2 ⟨rfl, hb⟩
  have HB2 : Hid (Below w.heap.size w w2) := below_then HB1.out hb HB1.out.size
  clear hb k0 k1 k2 k3 k4 k5 k6 k7 HB1
  go_wp2_with fail
  refine (awake_ok _).mono ?_
  rintro e w3 ⟨rfl, hb⟩
  have HB3 : Hid (Below w.heap.size w w3) := (HB2.out.alloc HB2.out.size _).trans (hb.mono (by have := HB2.out.size; simp; omega))
  have hA : w3.heap[w2.heap.size]? = some (.cells #[.int .i64 0, .int .i64 0, .slice none 0 0, .bool false] 40 (0, 0)) := (hb.block _ (by simp)).trans (blk_alloc _ _)
  have k0 : w3.cell? ⟨w2.heap.size, 0, none⟩ = some (.int .i64 0) := blk_cell hA 0
  have k1 : w3.cell? ⟨w2.heap.size, 1, none⟩ = some (.int .i64 0) := blk_cell hA 1
  have k2 : w3.cell? ⟨w2.heap.size, 2, none⟩ = some (.slice none 0 0) := blk_cell hA 2
  have k3 : w3.cell? ⟨w2.heap.size, 3, none⟩ = some (.bool false) := blk_cell hA 3
  clear hA hb HB2
  go_wp2_with fail
  refine (HWR.out _).mono ?_
  rintro e w4 ⟨rfl, rfl⟩
  go_wp2_with fail
  refine (soc_lines_nil _).mono ?_
  rintro e w4 ⟨rfl, rfl⟩
  go_wp2_with fail
  refine (soc_time_nil _).mono ?_
  rintro e w4 ⟨rfl, rfl⟩
  go_wp2_with fail
  refine (soc_devices_nil _).mono ?_
  rintro e w4 ⟨rfl, hb⟩
  have HB4 : Hid (Below w.heap.size w w4) := below_then HB3.out hb HB3.out.size
  clear hb k0 k1 k2 k3 HB3
  go_wp2_with fail
  refine (same_devices dev0 _ [] [] ⟨rfl, fun x hx => (nomatch hx), .inl ⟨rfl, rfl⟩⟩ ⟨rfl, fun x hx => (nomatch hx), .inl ⟨rfl, rfl⟩⟩).mono ?_
  rintro e w5 ⟨rfl, hb⟩
  have HB5 : Hid (Below w.heap.size w w5) := below_then HB4.out hb HB4.out.size
  clear hb HB4
  go_wp2_with fail
  refine (soc_log_nil _).mono ?_
  rintro e w6 ⟨rfl, rfl⟩
  go_wp2_with fail
  refine (soc_ram_nil _).mono ?_
  rintro e w6 ⟨rfl, rfl⟩
  go_wp2_with fail
  refine (soc_cycle_nil _).mono ?_
  rintro e w6 ⟨rfl, rfl⟩
  go_wp2
  go_ret
  exact ⟨rfl, HB5.out⟩
end Go.Proofs.Ytefcdbpmpnmkjaa
end
section
set_option linter.unusedVariables false
set_option linter.unusedSimpArgs false
namespace Go.Proofs.Ytefcdbpmpnmkjaa
open Go.ChangeShapes Go.WideShapes Go.ChangeAt Go.RowKit Go.Joins Go.Deep
set_option maxRecDepth 100000
section
variable {P : Program} {W : World} {H : Type} {enc : TypeId × Value → H}
/-- a struct of one-cell fields that came in by value: its cells, each field's own reading -/
theorem agg_fields {t : TypeId} {fs : Array Field} (ht : P.underlying t = some (.struct fs)) (hone : oneCellFields P fs = true) (hC : P.cellsOf t = fs.size) {v : Value} {d : DataW H} {p : List MemPlace} {b0 : Nat} (hv : Value.okWide P W .any b0 t v) (h : DataW.Trod enc P W 0 (fun _ => true) true t v d p) :
    ∃ cs : Array Value, v = .agg cs ∧ cs.size = fs.size ∧ ∀ (i : Nat) (f : Field), fs[i]? = some f → ∃ c y n, cs[i]? = some c ∧ DataW.trod enc P W 0 (fun _ => true) true n f.type [c] = some y := by
  obtain ⟨cs, rfl, hsz⟩ := okWide_struct ht hv
  refine ⟨cs, rfl, hsz.trans hC, fun i f hf => ?_⟩
  obtain ⟨fuel, hf'⟩ := h
  obtain ⟨ys, n', hn', hy, hlen, hyl, hg⟩ := DataW.trod_struct ht hf'
  obtain ⟨o0, k0⟩ := hone_of hone i f hf
  have hi : i < fs.size := (Array.getElem?_eq_some_iff.1 hf).1
  have hic : i < cs.size := by omega
  have h1 := hg i f hf
  rw [List.getElem?_eq_getElem (by omega : i < ys.length)] at h1
  refine ⟨cs[i], ys[i], n', by simp [hic], ?_⟩
  rw [← h1, o0, k0]
  congr 1
  simp [Value.cells]
  rw [List.drop_eq_getElem_cons (by simpa using hic)]
  simp
theorem field_int {t : TypeId} {k : IntKind} (ht : P.underlying t = some (.int k)) {base n : Nat} {sp : Nat → Bool} {held : Bool} {v : Value} {y : DataW H × List MemPlace} (h : DataW.trod enc P W base sp held n t [v] = some y) : ∃ x, v = .int k x := by
  obtain ⟨x, h1, _, h3⟩ := DataW.trod_int ht h
  exact ⟨x, by simpa using h1⟩
theorem field_slice {t e : TypeId} (ht : P.underlying t = some (.slice e)) {base n : Nat} {sp : Nat → Bool} {held : Bool} {v : Value} {y : DataW H × List MemPlace} (h : DataW.trod enc P W base sp held n t [v] = some y) : ∃ a m c, v = .slice a m c := by
  rcases DataW.trod_slice ht h with ⟨h1, _⟩ | ⟨a, len, cap, _, _, _, _, h1, _⟩
  · exact ⟨none, 0, 0, by simpa using h1⟩
  · exact ⟨some a, len, cap, by simpa using h1⟩
end
theorem array8 {α : Type} {cs : Array α} (h : cs.size = 8) : ∃ c0 c1 c2 c3 c4 c5 c6 c7, cs = #[c0, c1, c2, c3, c4, c5, c6, c7] := by
  obtain ⟨l⟩ := cs
  match l, h with
  | [c0, c1, c2, c3, c4, c5, c6, c7], _ => exact ⟨c0, c1, c2, c3, c4, c5, c6, c7, rfl⟩
section
variable {W : World} {H : Type} {enc : TypeId × Value → H}
theorem input_form {v : Value} {d : DataW H} {p : List MemPlace} {b0 : Nat} (hv : Value.okWide Try.prog W .any b0 31 v) (h : DataW.Trod enc Try.prog W 0 (fun _ => true) true 31 v d p) :
    ∃ l rx q2 q3, v = .agg #[.int .i64 l, .int .i64 rx, .int .i64 q2, .int .i64 q3] := by
  obtain ⟨cs, rfl, hsz, hg⟩ := agg_fields Try.underlying31 (by kernel_rfl) (by kernel_rfl) hv h
  obtain ⟨c0, c1, c2, c3, rfl⟩ := array4 hsz
  obtain ⟨_, y0, n0, e0, k0⟩ := hg 0 _ rfl
  obtain ⟨_, y1, n1, e1, k1⟩ := hg 1 _ rfl
  obtain ⟨_, y2, n2, e2, k2⟩ := hg 2 _ rfl
  obtain ⟨_, y3, n3, e3, k3⟩ := hg 3 _ rfl
  cases e0; cases e1; cases e2; cases e3
  obtain ⟨x0, rfl⟩ := field_int Try.underlying3 k0
  obtain ⟨x1, rfl⟩ := field_int Try.underlying3 k1
  obtain ⟨x2, rfl⟩ := field_int Try.underlying3 k2
  obtain ⟨x3, rfl⟩ := field_int Try.underlying3 k3
  exact ⟨_, _, _, _, rfl⟩
theorem ask_form {v : Value} {d : DataW H} {p : List MemPlace} {b0 : Nat} (hv : Value.okWide Try.prog W .any b0 43 v) (h : DataW.Trod enc Try.prog W 0 (fun _ => true) true 43 v d p) :
    ∃ a0 a1 a2 a3 a4 q5 n5 m5 q6 n6 m6 a7, v = .agg #[.int .i64 a0, .int .i64 a1, .int .i64 a2, .int .u64 a3, .int .i64 a4, .slice q5 n5 m5, .slice q6 n6 m6, .int .i64 a7] := by
  obtain ⟨cs, rfl, hsz, hg⟩ := agg_fields Try.underlying43 (by kernel_rfl) (by kernel_rfl) hv h
  obtain ⟨c0, c1, c2, c3, c4, c5, c6, c7, rfl⟩ := array8 hsz
  obtain ⟨_, y0, n0, e0, k0⟩ := hg 0 _ rfl
  obtain ⟨_, y1, n1, e1, k1⟩ := hg 1 _ rfl
  obtain ⟨_, y2, n2, e2, k2⟩ := hg 2 _ rfl
  obtain ⟨_, y3, n3, e3, k3⟩ := hg 3 _ rfl
  obtain ⟨_, y4, n4, e4, k4⟩ := hg 4 _ rfl
  obtain ⟨_, y5, n5, e5, k5⟩ := hg 5 _ rfl
  obtain ⟨_, y6, n6, e6, k6⟩ := hg 6 _ rfl
  obtain ⟨_, y7, n7, e7, k7⟩ := hg 7 _ rfl
  cases e0; cases e1; cases e2; cases e3; cases e4; cases e5; cases e6; cases e7
  obtain ⟨x0, rfl⟩ := field_int Try.underlying3 k0
  obtain ⟨x1, rfl⟩ := field_int Try.underlying3 k1
  obtain ⟨x2, rfl⟩ := field_int Try.underlying3 k2
  obtain ⟨x3, rfl⟩ := field_int Try.underlying29 k3
  obtain ⟨x4, rfl⟩ := field_int Try.underlying3 k4
  obtain ⟨q5, m5, c5, rfl⟩ := field_slice Try.underlying37 k5
  obtain ⟨q6, m6, c6, rfl⟩ := field_slice Try.underlying38 k6
  obtain ⟨x7, rfl⟩ := field_int Try.underlying3 k7
  exact ⟨_, _, _, _, _, _, _, _, _, _, _, _, rfl⟩
end
end Go.Proofs.Ytefcdbpmpnmkjaa
end
