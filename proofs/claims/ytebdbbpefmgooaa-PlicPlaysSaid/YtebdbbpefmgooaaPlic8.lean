/- The reference PLIC: its tick, walked. No condition. -/
import Derived.Test.YtebdbbpefmgooaaPlic7
import Derived.Test.YtebdbbpefmgooaaPlicF
import Derived.StillTailTactics
import Derived.BigRegion
import Derived.Deep.RegionWith
import Derived.Deep.QuietTactic
import Derived.BigQuiet
import Derived.Deep.LoopGhost
import Derived.Deep.DeepCutAuto
import Derived.Deep.DeepFit
import Derived.Deep.DeepMust
set_option linter.unusedVariables false
set_option linter.unusedSimpArgs false
namespace Go.Proofs.Ytebdbbpefmgooaa
open Go.RowKit
attribute [local go_sem ↓] ld_dev ld_ref ld_plc st_dev st_ref st_plc
attribute [local go_sem] rl_dev rl_ref rl_plc rs_dev rs_ref rs_plc Dev.size_cells Dev.st_ok Dev.c0 Dev.c1 Dev.c2 Dev.c3 Dev.c4 Dev.c5 Dev.c6 Dev.c7 Dev.c8 Dev.c9 Dev.c10 Dev.c11 Dev.c12 Dev.c13 Dev.c14 Dev.c15 Dev.c16 Dev.c17 Dev.c18 Dev.c19 Dev.c20 Dev.c21 Dev.set_pend Dev.set_cla row_alloc row_drew row_drewN is_alloc is_drew is_drewN row_setCell is_setCell setRow_alloc_new objRow_cells objIs_cells row_setRow_same row_setRow_other is_setRow_same is_setRow_other
/-- the PLIC d, handed back as a value; nothing that was there has turned -/
def RefIs (w : World) (d : Dev) (e : Ending) (w' : World) : Prop := e = .returned (.agg d.cells) ∧ Below w.heap.size w w'
theorem pend_eq (d : Dev) (p q : Nat) (h : p = q) : ({ d with pend := p } : Dev).cells = ({ d with pend := q } : Dev).cells := by rw [h]
set_option maxRecDepth 100000 in
set_option maxHeartbeats 4000000 in
theorem ref_tick (d : Dev) (hd : d.Ok) (l : Nat) (hl : l < 2 ^ 32) (w : World) :
    Calls Try.prog 56 #[.agg d.cells, .int .u32 l] w (RefIs w (d.tick l)) := by
  have hall := tick_all d hd l hl
  have HA := Lib.hid hall; have HD := Lib.hid hd; have HL := Lib.hid hl
  clear hall hd hl
  go_enter Try.func56, Try.ntmps56
  go_wp2
  go_loopw [5] (fun i wr => ∃ k : Nat, k ≤ 7 ∧ i = .int .i64 (k + 1) ∧ wr.heap[w.heap.size]? = some (.cells ({ d with pend := tickTo d.pend l d.cla k } : Dev).cells 61 (0, 0)) ∧ rowIs wr (w.heap.size + 1) 22 = true ∧ Below w.heap.size w wr) (fun i _ => 8 - (intOf i).toNat)
  case atStart =>
    refine ⟨0, by omega, rfl, ?_, ?_, ((Below.refl _ _).alloc (Nat.le_refl _) _).alloc (by simp) _⟩
    · exact (blk_alloc_old (w.alloc _) _ _ (by simp)).trans (blk_alloc _ _)
    · simp [go_sem]
  case round =>
    obtain ⟨k, hk, rfl, hh, hr, hb⟩ := hrel
    by_cases hlt : k < 7
    · have hp : tickTo d.pend l d.cla k < 2 ^ 32 := tickTo_lt _ _ _ HD.out.pend k (by omega)
      have hstep : Hid (tickTo d.pend l d.cla (k + 1) = if l.testBit (k + 1) && !d.cla.testBit (k + 1) then tickTo d.pend l d.cla k ||| pow2 (k + 1) else tickTo d.pend l d.cla k) := rfl
      generalize tickTo d.pend l d.cla k = p at *
      have b1 : ∀ b, l.testBit (k + 1) = b → Hid (∀ W, Calls Try.prog 58 #[.int .u32 (l : Int), .int .i64 ((k : Int) + 1)] W fun e w' => e = .returned (.bool b) ∧ w' = W) := fun b hb W => ref_bit' _ (k + 1) _ (by omega) HL.out (by omega) b hb W
      have b2 : ∀ b, d.cla.testBit (k + 1) = b → Hid (∀ W, Calls Try.prog 58 #[.int .u32 (d.cla : Int), .int .i64 ((k : Int) + 1)] W fun e w' => e = .returned (.bool b) ∧ w' = W) := fun b hb W => ref_bit' _ (k + 1) _ (by omega) HD.out.cla (by omega) b hb W
      have hkk : (k : Int) < 7 := by omega
      have c11 : wr.cell? ⟨w.heap.size, 11, none⟩ = some (.int .u32 p) := blk_cell hh 11
      have c12 : wr.cell? ⟨w.heap.size, 12, none⟩ = some (.int .u32 d.cla) := blk_cell hh 12
      have f11 : wr.frozen? ⟨w.heap.size, 11, none⟩ = false := blk_frozen hh 11
      have HH := Lib.hid hh; have HR := Lib.hid hr; have HB := Lib.hid hb; clear hh hr hb
      by_cases t1 : l.testBit (k + 1) = true
      · have B1 := b1 _ t1
        by_cases t2 : d.cla.testBit (k + 1) = true
        · have B2 := b2 _ t2
          have hs : Hid (tickTo d.pend l d.cla (k + 1) = p) := by show _ = _; rw [hstep.out, t1, t2]; rfl
          have T1 := Lib.hid t1; have T2 := Lib.hid t2
          clear b1 b2 t1 t2 hstep
          go_wp2_with fail
          refine (B1.out _).mono ?_
          rintro e w1 ⟨rfl, rfl⟩
          go_wp2_with fail
          refine (B2.out _).mono ?_
          rintro e w1 ⟨rfl, rfl⟩
          go_wp2
          go_roundw
          case rel => exact ⟨k + 1, by omega, by go_num, by rw [hs.out]; exact HH.out, HR.out, HB.out⟩
          case measure => simp [intOf]; omega
        · have t2 : d.cla.testBit (k + 1) = false := by simpa using t2
          have B2 := b2 _ t2
          have hs : Hid (tickTo d.pend l d.cla (k + 1) = p ||| pow2 (k + 1)) := by show _ = _; rw [hstep.out, t1, t2]; rfl
          have e0 := shl1_32 (s := k + 1) (by omega)
          have e1 := or32 p (pow2 (k + 1)) hp (pow2_lt (by omega))
          have T1 := Lib.hid t1; have T2 := Lib.hid t2
          clear b1 b2 t1 t2 hstep hp
          go_wp2_with fail
          refine (B1.out _).mono ?_
          rintro e w1 ⟨rfl, rfl⟩
          go_wp2_with fail
          refine (B2.out _).mono ?_
          rintro e w1 ⟨rfl, rfl⟩
          go_wp2
          go_roundw
          case rel =>
            refine ⟨k + 1, by omega, by go_num, ?_, ?_, HB.out.setCell (Nat.le_refl _) _⟩
            · rw [hs.out]; exact blk_set HH.out 11 _
            · rw [is_setCell]; exact HR.out
          case measure => simp [intOf]; omega
      · have t1 : l.testBit (k + 1) = false := by simpa using t1
        have B1 := b1 _ t1
        have hs : Hid (tickTo d.pend l d.cla (k + 1) = p) := by show _ = _; rw [hstep.out, t1]; rfl
        have T1 := Lib.hid t1
        clear b1 b2 t1 hstep
        go_wp2_with fail
        refine (B1.out _).mono ?_
        rintro e w1 ⟨rfl, rfl⟩
        go_wp2
        go_roundw
        case rel => exact ⟨k + 1, by omega, by go_num, by rw [hs.out]; exact HH.out, HR.out, HB.out⟩
        case measure => simp [intOf]; omega
    · obtain rfl : k = 7 := by omega
      have hr0 : rowIs wr w.heap.size 22 = true := by have := rowIs_of hh; exact this
      have hr1 : rowOf wr w.heap.size = (d.tick l).cells := by rw [rowOf_of hh, pend_eq d _ _ HA.out]; rfl
      have HB := Lib.hid hb; clear hb hh
      go_wp2
      exact bodyPost_ret (res_c _ _ _ (w.heap.size + 1) (d.tick l).cells rfl (lvs_ref _ _ _ hr rfl) rfl) rfl ⟨rfl, below_setRow HB.out (by omega) _⟩
end Go.Proofs.Ytebdbbpefmgooaa
