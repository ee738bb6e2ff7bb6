/- The PLIC: its functions walked. No condition. -/
import Derived.Test.YtebdbbpefmgooaaPlicD
import Derived.Deep.RegionWith
import Derived.Deep.QuietTactic
import Derived.BigQuiet
import Derived.Deep.LoopGhost
import Derived.Deep.DeepCutAuto
import Derived.Deep.DeepFit
import Derived.Deep.DeepMust
set_option linter.unusedVariables false
set_option linter.unusedSimpArgs false
namespace Go.Proofs.Ytebdbbpefmgooaa
open Go.RowKit
/-- block b holds the PLIC d -/
def PlicAt (w : World) (b : Nat) (d : Dev) : Prop := w.heap[b]? = some (.cells d.cells 102 (0, 0))
set_option maxRecDepth 100000 in
set_option maxHeartbeats 1000000 in
theorem plic_best (d : Dev) (hd : d.Ok) (b c : Nat) (hc : c < 2) (w : World) (hp : PlicAt w b d) :
    Calls Try.prog 30 #[.pointer (some ⟨b, 0, none⟩), .int .i64 c] w fun e w' => e = .returned (.int .i64 (d.best c)) ∧ ∃ n, w' = w.drewN n := by
  have c0 : w.cell? ⟨b, 11, none⟩ = some (.int .u32 d.pend) := blk_cell hp 11
  have c1 : w.cell? ⟨b, 13 + c, none⟩ = some (.int .u32 (d.en c)) := (blk_cell hp _).trans (d.cell_en c hc)
  have hcc : (c : Int) < 2 := by omega
  have hx := and32 d.pend (d.en c) hd.pend (hd.en c hc)
  go_enter Try.func30, Try.ntmps30
  go_wp2
  go_loopw [5, 18] (fun v i wr => ∃ k : Nat, k ≤ 7 ∧ i = .int .i64 k ∧ v = .int .i64 (bestTo (d.pend &&& d.en c) d.pr k) ∧ ∃ n, wr = w.drewN n) (fun _ i _ => 7 - (intOf i).toNat)
  case atStart => exact ⟨0, by omega, rfl, rfl, 0, rfl⟩
  case round =>
    obtain ⟨k, hk, rfl, rfl, n, rfl⟩ := hrel
    by_cases hlt : k < 7
    · have hle := bestTo_le (d.pend &&& d.en c) d.pr k
      generalize hB : bestTo (d.pend &&& d.en c) d.pr k = B at *
      have HB := Lib.hid hB; clear hB
      have c2 : w.cell? ⟨b, 3 + (k + 1), none⟩ = some (.int .u32 (d.pr (k + 1))) := (blk_cell hp _).trans (d.cell_pr _ (by omega))
      have c3 : w.cell? ⟨b, 3 + B, none⟩ = some (.int .u32 (d.pr B)) := (blk_cell hp _).trans (d.cell_pr _ (by omega))
      have hstep : bestTo (d.pend &&& d.en c) d.pr (k + 1) = if (d.pend &&& d.en c).testBit (k + 1) ∧ d.pr B < d.pr (k + 1) then k + 1 else B := by rw [bestTo, HB.out]
      have hbit := bit_ne (d.pend &&& d.en c) (k + 1) (and_lt32 _ hd.pend)
      have hstep := Lib.hid hstep
      by_cases ht : (d.pend &&& d.en c).testBit (k + 1) = true
      · rw [ht] at hbit
        by_cases hpr : d.pr B < d.pr (k + 1)
        · have H2 : Hid (bestTo (d.pend &&& d.en c) d.pr (k + 1) = k + 1) := by show _ = _; rw [hstep.out, if_pos ⟨ht, hpr⟩]
          have ht := Lib.hid ht; clear hstep
          go_wp2
          go_quiet (fail)
          go_wp2
          go_roundw
          case rel => exact ⟨k + 1, by omega, by go_num, by rw [H2.out]; go_num, _, rfl⟩
          case measure => simp [intOf]; omega
        · have H2 : Hid (bestTo (d.pend &&& d.en c) d.pr (k + 1) = B) := by show _ = _; rw [hstep.out, if_neg (fun h => hpr h.2)]
          have ht := Lib.hid ht; clear hstep
          go_wp2
          go_quiet (fail)
          go_wp2
          go_roundw
          case rel => exact ⟨k + 1, by omega, by go_num, by rw [H2.out], _, rfl⟩
          case measure => simp [intOf]; omega
      · have ht : (d.pend &&& d.en c).testBit (k + 1) = false := by simpa using ht
        rw [ht] at hbit
        · have H2 : Hid (bestTo (d.pend &&& d.en c) d.pr (k + 1) = B) := by show _ = _; rw [hstep.out, if_neg (by simp [ht])]
          have ht := Lib.hid ht; clear hstep
          go_wp2
          go_quiet (fail)
          go_wp2
          go_roundw
          case rel => exact ⟨k + 1, by omega, by go_num, by rw [H2.out], _, rfl⟩
          case measure => simp [intOf]; omega
    · obtain rfl : k = 7 := by omega
      have H2 : Hid (bestTo (d.pend &&& d.en c) d.pr 7 = d.best c) := rfl
      go_wp2
      go_ret
      exact ⟨by rw [← H2.out]; rfl, _, rfl⟩
set_option maxRecDepth 100000 in
set_option maxHeartbeats 1000000 in
theorem plic_best_nil (c : Int) (w : World) :
    Calls Try.prog 30 #[.pointer none, .int .i64 c] w fun e w' => e = .returned (.int .i64 0) ∧ w = w' := by
  go_enter Try.func30, Try.ntmps30
  go_wp2
  go_ret
  exact ⟨rfl, rfl⟩
set_option maxRecDepth 100000 in
set_option maxHeartbeats 1000000 in
theorem plic_best_out (b : Nat) (c : Int) (h : c < 0 ∨ 2 ≤ c) (w : World) :
    Calls Try.prog 30 #[.pointer (some ⟨b, 0, none⟩), .int .i64 c] w fun e w' => e = .returned (.int .i64 0) ∧ w = w' := by
  by_cases hc : c < 0
  · clear h
    go_enter Try.func30, Try.ntmps30
    go_wp2
    go_ret
    exact ⟨rfl, rfl⟩
  · have h2 : 2 ≤ c := by omega
    have h0 : 0 ≤ c := by omega
    clear h hc
    go_enter Try.func30, Try.ntmps30
    go_wp2
    go_ret
    exact ⟨rfl, rfl⟩
end Go.Proofs.Ytebdbbpefmgooaa
