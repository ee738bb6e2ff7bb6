/- One call of the memory's script, Word: both answer alike. -/
import Derived.Test.YtebdbbpefmgooaaRamLink
import Derived.StillTailTactics
import Derived.BigRegion
import Derived.Deep.RegionWith
import Derived.Deep.RegionHeld3
import Derived.Deep.QuietTactic
import Derived.BigQuiet
import Derived.Deep.LoopGhost
import Derived.Deep.DeepCutAuto
import Derived.Deep.DeepFit
import Derived.Deep.DeepMust
import Derived.Handy
set_option linter.unusedVariables false
set_option linter.unusedSimpArgs false
namespace Go.Proofs.Ytebdbbpefmgooaa
open Go.RowKit
set_option maxRecDepth 100000
/-- what Word answers, of both memories -/
def wordV (n : Nat) (ct : Nat → Nat) (x k : Int) : Nat := if mayErr n x k = 0 then wordAt ct (x - 2147483648).toNat k.toNat else 0
theorem ram_word_any {w : World} {b n : Nat} {ct : Nat → Nat} {S : Nat → Prop} (h : RamAt w b n ct S) (x : Int) (x0 : 0 ≤ x) (x1 : x < 18446744073709551616) (k : Int) :
    Calls Try.prog 43 #[.pointer (some ⟨b, 0, none⟩), .int .u64 x, .int .i64 k] w (WordOr w · · (mayErr n x k) (wordV n ct x k)) := by
  unfold wordV
  by_cases hm : mayErr n x k = 0
  · rw [if_pos hm, hm]; exact ram_word_ok h x x0 x1 k hm
  · rw [if_neg hm]; exact ram_word_err h x x0 x1 k hm
theorem ref_word_any {w : World} {B wb n : Nat} {v : Value} {c : Nat → Int × Int} {m : Nat} (h : RefRam w B wb n v c m) (n4 : (4 : Int) ≤ n) (n256 : (n : Int) ≤ 256) {ct : Nat → Nat} (hs : SameB n (fun y => lkTo c y m) ct) (x : Int) (x0 : 0 ≤ x) (x1 : x < 18446744073709551616) (k : Int) :
    Calls Try.prog 72 #[.pointer (some ⟨wb, 0, none⟩), .int .u64 x, .int .i64 k] w (WordOr w · · (mayErr n x k) (wordV n ct x k)) := by
  unfold wordV
  by_cases hm : mayErr n x k = 0
  · obtain ⟨hk, _, ha⟩ := mayErr_0 hm
    have e := hs.word n256 x k.toNat (by rw [show ((k.toNat : Nat) : Int) = k by omega]; exact ha)
    rw [if_pos hm, hm, ← e]; exact refm_word_ok h n4 n256 x x0 x1 k hm
  · rw [if_neg hm]; exact refm_word_err h n4 n256 x x0 x1 k hm
set_option maxHeartbeats 4000000 in
theorem step_word {w : World} {b n : Nat} {ct : Nat → Nat} {S : Nat → Prop} (h : RamAt w b n ct S) {B wb : Nat} {rv : Value} {c : Nat → Int × Int} {m : Nat} (hr : RefRam w B wb n rv c m) (n4 : (4 : Int) ≤ n) (n256 : (n : Int) ≤ 256) (hs : SameB n (fun y => lkTo c y m) ct)
    (k x v : Int) (raw : Bool) (s t : Value) (x0 : 0 ≤ x) (x1 : x < 18446744073709551616) :
    Calls Try.prog 51 #[.pointer (some ⟨b, 0, none⟩), .pointer (some ⟨wb, 0, none⟩), .agg #[.int .i64 4, .int .i64 k, .int .u64 x, .bool raw, s, t, .int .u64 v]] w fun e w' => e = .returned (.bool true) ∧ Below w.heap.size w w' := by
  have H := Lib.hid h; have HR := Lib.hid hr; have HS := Lib.hid hs
  have HX := Lib.hid (And.intro x0 x1)
  have HP := fun W : World => Lib.hid (law_place (w := W) 4 k x v raw s t x0 x1)
  clear h hr hs
  go_enter Try.func51, Try.ntmps51
  go_wp2_with fail
  refine ((HP _).out).mono ?_
  rintro e w1 ⟨rfl, hb1⟩
  have p0 := placeAt_lo x raw HX.out.1
  have p1 := placeAt_hi x raw HX.out.2
  generalize placeAt x raw = y at *
  have HB1 : Hid (Below w.heap.size w w1) := by
    have hz := (Below.refl w.heap.size w).alloc (Nat.le_refl _) (.cells #[.int .i64 4, .int .i64 k, .int .u64 x, .bool raw, s, t, .int .u64 v] 91)
    exact hz.trans (hb1.mono (by simp))
  clear HP
  have hbk : w1.heap[w.heap.size]? = some (.cells #[.int .i64 4, .int .i64 k, .int .u64 x, .bool raw, s, t, .int .u64 v] 91 (0, 0)) := (hb1.block _ (by simp)).trans (blk_alloc w _)
  have q0 : w1.cell? ⟨w.heap.size, 0, none⟩ = some (.int .i64 4) := blk_cell hbk 0
  have q1 : w1.cell? ⟨w.heap.size, 1, none⟩ = some (.int .i64 k) := blk_cell hbk 1
  go_wp2_with fail
  refine (ram_word_any (H.out.below HB1.out) y p0 p1 k).mono ?_
  rintro e w2 ⟨rfl, hb2⟩
  have HB2 : Hid (Below w.heap.size w w2) := HB1.out.trans (hb2.mono HB1.out.size)
  have hbk2 : w2.heap[w.heap.size]? = some (.cells #[.int .i64 4, .int .i64 k, .int .u64 x, .bool raw, s, t, .int .u64 v] 91 (0, 0)) := (hb2.block _ (blk_lt hbk)).trans hbk
  have q2 : w2.cell? ⟨w.heap.size, 1, none⟩ = some (.int .i64 k) := blk_cell hbk2 1
  have g2 : w.heap.size < w2.heap.size := blk_lt hbk2
  have HRW := Lib.hid (ref_word_any (HR.out.below HB2.out) n4 n256 HS.out y p0 p1 k)
  generalize wordV n ct y k = V at *
  generalize mayErr n y k = E at *
  clear q0 q1
  go_wp2_with fail
  refine HRW.out.mono ?_
  rintro e w3 ⟨rfl, hb3⟩
  have HB3 : Hid (Below w.heap.size w w3) := HB2.out.trans (hb3.mono (Nat.le_of_lt g2))
  go_wp2_with fail
  go_ret
  exact ⟨by first | rfl | simp, HB3.out⟩
end Go.Proofs.Ytebdbbpefmgooaa
