/- Contracts of the functions of the ROM and of its law: what each call answers and leaves. No condition. -/
import Derived.Test.YtebdbbpefmgooaaRom
import Derived.Deep.RegionWith
import Derived.Deep.LoopGhost
import Derived.Deep.DeepCutAuto
import Derived.Deep.DeepFit
import Derived.Deep.DeepMust
set_option linter.unusedVariables false
set_option linter.unusedSimpArgs false
namespace Go.Proofs.Ytebdbbpefmgooaa
open Go.RowKit
/-- no bytes, and that error -/
def ErrIs (w : World) (k : Int) (e : Ending) (w' : World) : Prop := e = .returned (.tuple #[.slice none 0 0, .int .i64 k]) ∧ w = w'
set_option maxRecDepth 100000 in
set_option maxHeartbeats 1000000 in
theorem rom_read_neg (off n : Int) (h : n < 0) (w : World) : Calls Try.prog 16 #[.int .u64 off, .int .i64 n] w (ErrIs w 1) := by
  go_enter Try.func16, Try.ntmps16
  go_wp2
  go_ret2
  exact ⟨rfl, rfl⟩
set_option maxRecDepth 100000 in
set_option maxHeartbeats 1000000 in
theorem ref_read_neg (off n : Int) (h : n < 0) (w : World) : Calls Try.prog 17 #[.int .u64 off, .int .i64 n] w (ErrIs w 1) := by
  go_enter Try.func17, Try.ntmps17
  go_wp2
  go_ret2
  exact ⟨rfl, rfl⟩
set_option maxRecDepth 100000 in
set_option maxHeartbeats 1000000 in
theorem rom_read_bus (off n : Int) (h0 : 0 ≤ n) (h2 : n ≤ 9223372036854775807) (o0 : 0 ≤ off) (o1 : off ≤ 18446744073709551615) (h : 4096 < off ∨ 4096 - off < n) (w : World) :
    Calls Try.prog 16 #[.int .u64 off, .int .i64 n] w (ErrIs w 6) := by
  by_cases hc : 4096 < off
  · clear h
    go_enter Try.func16, Try.ntmps16
    go_wp2
    go_ret2
    exact ⟨rfl, rfl⟩
  · have h' : 4096 - off < n := by omega
    have hc : off ≤ 4096 := by omega
    clear h
    go_enter Try.func16, Try.ntmps16
    go_wp2
    go_ret2
    exact ⟨rfl, rfl⟩
set_option maxRecDepth 100000 in
set_option maxHeartbeats 1000000 in
theorem ref_read_bus (off n : Int) (h0 : 0 ≤ n) (h2 : n ≤ 9223372036854775807) (o0 : 0 ≤ off) (o1 : off ≤ 18446744073709551615) (h : 4096 < off ∨ 4096 - off < n) (w : World) :
    Calls Try.prog 17 #[.int .u64 off, .int .i64 n] w (ErrIs w 6) := by
  by_cases hc : 4096 < off
  · clear h
    go_enter Try.func17, Try.ntmps17
    go_wp2
    go_ret2
    exact ⟨rfl, rfl⟩
  · have h' : 4096 - off < n := by omega
    have hc : off ≤ 4096 := by omega
    clear h
    go_enter Try.func17, Try.ntmps17
    go_wp2
    go_ret2
    exact ⟨rfl, rfl⟩

set_option maxRecDepth 100000 in
set_option maxHeartbeats 1000000 in
theorem rom_awake (w : World) : Calls Try.prog 18 #[] w fun e w' => e = .returned (.bool true) ∧ Below w.heap.size w w' := by
  go_enter Try.func18, Try.ntmps18
  go_wp2_with fail
  refine (rom_bytes w).mono ?_
  rintro e w1 ⟨rfl, hh, hb⟩
  have hc : w1.cell? ⟨w.heap.size + 1, 0, none⟩ = some (.int .u8 151) := (blk_cell hh 0).trans ((romArr_get _ _ (by omega)).trans rfl)
  have HB := Lib.hid hb; clear hh hb
  go_wp2
  go_ret
  exact ⟨rfl, HB.out⟩

set_option maxRecDepth 100000 in
set_option maxHeartbeats 1000000 in
theorem same_spoil (b o n c : Nat) (hn : n ≤ 9223372036854775807) (w : World) (hc : ∀ i, i < n → ∃ x, w.cell? ⟨b, o + i, none⟩ = some (.int .u8 x)) (hf : ∀ i, i < n → w.frozen? ⟨b, o + i, none⟩ = false) :
    Calls Try.prog 23 #[.slice (some ⟨b, o, none⟩) n c] w fun e w' => e = .returned (.tuple #[]) ∧ ∀ B, B ≤ b → Below B w w' := by
  go_enter Try.func23, Try.ntmps23
  go_wp2
  go_loopw [2] (fun i wr => ∃ k : Nat, k ≤ n ∧ i = .int .i64 k ∧ (∀ i, i < n → ∃ x, wr.cell? ⟨b, o + i, none⟩ = some (.int .u8 x)) ∧ (∀ i, i < n → wr.frozen? ⟨b, o + i, none⟩ = false) ∧ (∀ B, B ≤ b → Below B w wr)) (fun i _ => n - (intOf i).toNat)
  case atStart => exact ⟨0, by omega, rfl, hc, hf, fun B _ => Below.refl _ _⟩
  case round =>
    clear hc hf
    obtain ⟨k, hk, rfl, hc, hf, hb⟩ := hrel
    by_cases hlt : k < n
    · obtain ⟨x, hx⟩ := hc k hlt
      have hfx := hf k hlt
      have HC := Lib.hid hc; have HF := Lib.hid hf; have HB := Lib.hid hb; clear hc hf hb
      go_wp2
      go_roundw
      case rel =>
        refine ⟨k + 1, by omega, by go_num, fun i hi => ?_, fun i hi => by rw [frozen_set]; exact HF.out i hi, fun B hB => (HB.out B hB).setCell hB _⟩
        rw [cell_set]
        obtain ⟨z, hz⟩ := HC.out i hi
        split
        · exact ⟨_, by rw [hz]; rfl⟩
        · exact ⟨z, hz⟩
      case measure => simp [intOf]; omega
    · have HB := Lib.hid hb; clear hc hf hb
      go_wp2
      go_end0
      exact ⟨rfl, HB.out⟩
end Go.Proofs.Ytebdbbpefmgooaa
