/- The law PlicOnce, walked. No condition. -/
import Derived.Test.YtebdbbpefmgooaaPlicThrW
import Derived.StillTailTactics
import Derived.BigRegion
import Derived.Deep.RegionWith
import Derived.Deep.QuietTactic
import Derived.BigQuiet
import Derived.Deep.LoopGhost
import Derived.Deep.DeepCutAuto
import Derived.Deep.DeepFit
import Derived.Deep.DeepMust
set_option linter.unusedVariables false
set_option linter.unusedSimpArgs false
namespace Go.Proofs.Ytebdbbpefmgooaa
open Go.RowKit
attribute [local go_sem ↓] ld_dev ld_ref ld_plc st_dev st_ref st_plc
attribute [local go_sem] rl_dev rl_ref rl_plc rs_dev rs_ref rs_plc Dev.size_cells Dev.st_ok Dev.c0 Dev.c1 Dev.c2 Dev.c3 Dev.c4 Dev.c5 Dev.c6 Dev.c7 Dev.c8 Dev.c9 Dev.c10 Dev.c11 Dev.c12 Dev.c13 Dev.c14 Dev.c15 Dev.c16 Dev.c17 Dev.c18 Dev.c19 Dev.c20 Dev.c21 Dev.set_pend Dev.set_cla row_alloc row_drew row_drewN is_alloc is_drew is_drewN row_setCell is_setCell setRow_alloc_new objRow_cells objIs_cells row_setRow_same row_setRow_other is_setRow_same is_setRow_other
theorem shl1_64 {s : Nat} (h : s ≤ 7) : IntKind.u64.wrap ((2 : Int) ^ s) = (pow2 s : Int) := by
  rw [IntKind.wrap_u64]
  have h1 := pow2_lt h
  have h2 : ((2 : Int) ^ s) = ((pow2 s : Nat) : Int) := by unfold pow2; rw [Int.natCast_pow]; rfl
  rw [h2]
  omega
/-- the steps of PlicOnce -/
def onA (m : Nat) : Dev := (dev0.write (4 * (1 + (m : Int))) 4 1).2
def onB (m : Nat) (o1 : Int) : Dev := ((onA m).write o1 4 (pow2 (1 + m))).2
def onC (m : Nat) (o1 : Int) : Dev := (onB m o1).tick (pow2 (1 + m))
def onD (m : Nat) (o1 o3 : Int) : Dev := ((onC m o1).read o3 4).2.2
def onE (m : Nat) (o1 o3 : Int) : Dev := (onD m o1 o3).tick 254
def onF (m : Nat) (d : Dev) (o3 : Int) : Dev := (d.write o3 4 (1 + m)).2
def onOk (m : Nat) (o1 o3 : Int) (c : Nat) : Bool :=
  ((dev0.write (4 * (1 + (m : Int))) 4 1).1 == 0) && (((onA m).write o1 4 (pow2 (1 + m))).1 == 0) &&
  (((onC m o1).read o3 4).1 == 1 + m) && (((onC m o1).read o3 4).2.1 == 0) && ((onD m o1 o3).lns == 0) &&
  (((onE m o1 o3).tick 254).pend == (onE m o1 o3).pend) && ((onE m o1 o3).best c == 0) && ((onE m o1 o3).lns == 0) &&
  (((onD m o1 o3).write o3 4 (1 + m)).1 == 0) && (((onE m o1 o3).write o3 4 (1 + m)).1 == 0) &&
  (((onF m (onD m o1 o3) o3).tick (pow2 (1 + m))).best c == 1 + m) && (((onF m (onE m o1 o3) o3).tick (pow2 (1 + m))).best c == 1 + m) &&
  ((onF m (onD m o1 o3) o3).best c == 0) && ((onF m (onE m o1 o3) o3).best c == 0)
theorem on_all0 : ∀ m : Fin 7, onOk m.val 8192 2097156 0 = true := by decide +kernel
theorem on_all1 : ∀ m : Fin 7, onOk m.val 8320 2101252 1 = true := by decide +kernel
theorem tick_same (d : Dev) (l : Nat) (h : (d.tick l).pend = d.pend) : d.tick l = d := by
  show ({ d with pend := (d.tick l).pend } : Dev) = d
  rw [h]
set_option maxRecDepth 100000 in
set_option maxHeartbeats 4000000 in
theorem once_00 (source ticks : Int) (m q : Nat) (hm : m < 7) (hq : q < 50) (em : wrap64 ((IntKind.u64.wrap source).tmod 7) = (m : Int)) (eq : wrap64 ((IntKind.u64.wrap ticks).tmod 50) = (q : Int)) (w : World) :
    Calls Try.prog 4 #[.int .i64 source, .int .i64 ticks, .bool false, .bool false] w fun e w' => e = .returned (.bool true) ∧ Below w.heap.size w w' := by
  have hon := on_all0 ⟨m, hm⟩
  simp only [onOk, Bool.and_eq_true, beq_iff_eq] at hon
  obtain ⟨⟨⟨⟨⟨⟨⟨⟨⟨⟨⟨⟨⟨q1, q2⟩, q3⟩, q4⟩, q5⟩, q6⟩, q7⟩, q8⟩, q9⟩, q10⟩, q11⟩, q12⟩, q13⟩, q14⟩ := hon
  have Q1 := Lib.hid q1; have Q2 := Lib.hid q2; have Q3 := Lib.hid q3; have Q4 := Lib.hid q4; have Q5 := Lib.hid q5; have Q6 := Lib.hid (tick_same _ _ q6); have Q7 := Lib.hid q7; have Q8 := Lib.hid q8
  have QD : Hid (∀ d, (d = onD m 8192 2097156 ∨ d = onE m 8192 2097156) → (d.write 2097156 4 (1 + m)).1 = 0 ∧ ((onF m d 2097156).tick (pow2 (1 + m))).best 0 = 1 + m ∧ (onF m d 2097156).best 0 = 0) := by
    rintro d (rfl | rfl)
    · exact ⟨q9, q11, q13⟩
    · exact ⟨q10, q12, q14⟩
  clear q1 q2 q3 q4 q5 q6 q7 q8 q9 q10 q11 q12 q13 q14
  have m7 : (m : Int) < 7 := by omega
  have HM := Lib.hid hm
  have HQ := Lib.hid hq
  have q50 : (q : Int) < 50 := by omega
  have hz : ((0 : Int) == 1 + (m : Int)) = false := by simp; omega
  have e0 := shl1_32 (s := 1 + m) (by omega)
  have e64 := shl1_64 (s := 1 + m) (by omega)
  clear hm hq
  have hp2 : Hid ((pow2 (1 + m) : Int) < 4294967296) := Int.ofNat_lt.2 (pow2_lt (s := 1 + m) (by have := HM.out; omega))
  go_enter Try.func4, Try.ntmps4
  go_wp2_with fail
  refine (plic_new _).mono ?_
  rintro e w1 ⟨rfl, rfl⟩
  have H := Lib.hid (PlicHere.new w)
  go_wp2_with fail
  clear em
  refine (plic_awake _).mono ?_
  rintro e w1 ⟨rfl, hb⟩
  have H1 := Lib.hid (H.out.keep hb); clear hb H
  go_wp2_with fail
  refine (here_write H1.out _ _ _ (by omega) (by omega)).mono ?_
  rintro e w2 ⟨rfl, hh⟩
  rw [show (dev0.write (4 * (1 + (m : Int))) 4 (1 : Int).toNat).1 = 0 from Q1.out]
  have H2 : Hid (PlicHere w _ (onA m) w2) := hh
  clear hh H1 Q1
  go_wp2_with fail
  rw [e64]
  refine (here_write H2.out _ _ _ (by omega) (by have := hp2.out; omega)).mono ?_
  rintro e w3 ⟨rfl, hh⟩
  rw [Int.toNat_natCast] at hh ⊢
  rw [Q2.out]
  have H3 : Hid (PlicHere w _ (onB m 8192) w3) := hh
  clear hh H2 Q2
  go_wp2_with fail
  refine (here_tick H3.out _ (by omega) hp2.out).mono ?_
  rintro e w5 ⟨rfl, hh⟩
  rw [Int.toNat_natCast] at hh
  have H5 : Hid (PlicHere w _ (onC m 8192) w5) := hh
  clear hh H3
  go_wp2_with fail
  refine (here_read H5.out _ _).mono ?_
  rintro e w6 ⟨rfl, hh⟩
  rw [Q3.out, Q4.out]
  have H6 : Hid (PlicHere w _ (onD m 8192 2097156) w6) := hh
  clear hh H5 Q3 Q4
  go_wp2_with fail
  refine (here_lines H6.out).mono ?_
  rintro e w7 ⟨rfl, hh⟩
  rw [Q5.out]
  have H7 := Lib.hid hh
  clear hh H6 Q5
  go_wp2_with fail
  go_loopw [15] (fun i wr => ∃ k : Nat, k ≤ q ∧ i = .int .i64 k ∧ ∃ d, (d = onD m 8192 2097156 ∨ d = onE m 8192 2097156) ∧ PlicHere w w.heap.size d wr) (fun i _ => q - (intOf i).toNat)
  case atStart => exact ⟨0, Nat.zero_le _, rfl, _, .inl rfl, H7.out⟩
  case round =>
    clear H7
    obtain ⟨k, hk, rfl, d, hd, hh⟩ := hrel
    have H8 := Lib.hid hh; clear hh
    by_cases hlt : k < q
    · have hE : Hid (d.tick (254 : Int).toNat = onE m 8192 2097156) := by
        rcases hd with rfl | rfl
        · rfl
        · exact Q6.out
      clear hd
      have hlt' : (k : Int) < q := by omega
      go_wp2_with fail
      refine (here_tick H8.out 254 (by omega) (by omega)).mono ?_
      rintro e w9 ⟨rfl, hh⟩
      rw [hE.out] at hh
      have H9 := Lib.hid hh; clear hh H8
      go_wp2_with fail
      refine (here_best H9.out 0 (by omega) (by omega)).mono ?_
      rintro e w10 ⟨rfl, hh⟩
      rw [show (onE m 8192 2097156).best (0 : Int).toNat = 0 from Q7.out]
      have H10 := Lib.hid hh; clear hh H9
      go_wp2_with fail
      refine (here_lines H10.out).mono ?_
      rintro e w11 ⟨rfl, hh⟩
      rw [Q8.out]
      have H11 := Lib.hid hh; clear hh H10
      go_wp2_with fail
      go_roundw
      case rel => exact ⟨k + 1, by omega, by go_num, _, .inr rfl, H11.out⟩
      case measure => simp [intOf]; omega
    · have hge : ¬ (k : Int) < q := by omega
      obtain ⟨f1, f2, f3⟩ := QD.out d hd
      have F1 := Lib.hid f1; have F2 := Lib.hid f2; have F3 := Lib.hid f3
      clear hd f1 f2 f3
      go_wp2_with fail
      refine (here_write H8.out _ _ _ (by omega) (by omega)).mono ?_
      rintro e w9 ⟨rfl, hh⟩
      rw [show ((1 : Int) + m).toNat = 1 + m by omega] at hh ⊢
      rw [F1.out]
      have H9 : Hid (PlicHere w _ (onF m d 2097156) w9) := hh
      clear hh H8
      go_wp2_with fail
      refine (here_best H9.out 0 (by omega) (by omega)).mono ?_
      rintro e w11 ⟨rfl, hh⟩
      rw [show (onF m d 2097156).best (0 : Int).toNat = 0 from F3.out]
      have H11 := Lib.hid hh; clear hh H9
      go_wp2_with fail
      go_ret
      exact ⟨rfl, H11.out.below⟩
set_option maxRecDepth 100000 in
set_option maxHeartbeats 4000000 in
theorem once_01 (source ticks : Int) (m q : Nat) (hm : m < 7) (hq : q < 50) (em : wrap64 ((IntKind.u64.wrap source).tmod 7) = (m : Int)) (eq : wrap64 ((IntKind.u64.wrap ticks).tmod 50) = (q : Int)) (w : World) :
    Calls Try.prog 4 #[.int .i64 source, .int .i64 ticks, .bool true, .bool false] w fun e w' => e = .returned (.bool true) ∧ Below w.heap.size w w' := by
  have hon := on_all0 ⟨m, hm⟩
  simp only [onOk, Bool.and_eq_true, beq_iff_eq] at hon
  obtain ⟨⟨⟨⟨⟨⟨⟨⟨⟨⟨⟨⟨⟨q1, q2⟩, q3⟩, q4⟩, q5⟩, q6⟩, q7⟩, q8⟩, q9⟩, q10⟩, q11⟩, q12⟩, q13⟩, q14⟩ := hon
  have Q1 := Lib.hid q1; have Q2 := Lib.hid q2; have Q3 := Lib.hid q3; have Q4 := Lib.hid q4; have Q5 := Lib.hid q5; have Q6 := Lib.hid (tick_same _ _ q6); have Q7 := Lib.hid q7; have Q8 := Lib.hid q8
  have QD : Hid (∀ d, (d = onD m 8192 2097156 ∨ d = onE m 8192 2097156) → (d.write 2097156 4 (1 + m)).1 = 0 ∧ ((onF m d 2097156).tick (pow2 (1 + m))).best 0 = 1 + m ∧ (onF m d 2097156).best 0 = 0) := by
    rintro d (rfl | rfl)
    · exact ⟨q9, q11, q13⟩
    · exact ⟨q10, q12, q14⟩
  clear q1 q2 q3 q4 q5 q6 q7 q8 q9 q10 q11 q12 q13 q14
  have m7 : (m : Int) < 7 := by omega
  have HM := Lib.hid hm
  have HQ := Lib.hid hq
  have q50 : (q : Int) < 50 := by omega
  have hz : ((0 : Int) == 1 + (m : Int)) = false := by simp; omega
  have e0 := shl1_32 (s := 1 + m) (by omega)
  have e64 := shl1_64 (s := 1 + m) (by omega)
  clear hm hq
  have hp2 : Hid ((pow2 (1 + m) : Int) < 4294967296) := Int.ofNat_lt.2 (pow2_lt (s := 1 + m) (by have := HM.out; omega))
  go_enter Try.func4, Try.ntmps4
  go_wp2_with fail
  refine (plic_new _).mono ?_
  rintro e w1 ⟨rfl, rfl⟩
  have H := Lib.hid (PlicHere.new w)
  go_wp2_with fail
  clear em
  refine (plic_awake _).mono ?_
  rintro e w1 ⟨rfl, hb⟩
  have H1 := Lib.hid (H.out.keep hb); clear hb H
  go_wp2_with fail
  refine (here_write H1.out _ _ _ (by omega) (by omega)).mono ?_
  rintro e w2 ⟨rfl, hh⟩
  rw [show (dev0.write (4 * (1 + (m : Int))) 4 (1 : Int).toNat).1 = 0 from Q1.out]
  have H2 : Hid (PlicHere w _ (onA m) w2) := hh
  clear hh H1 Q1
  go_wp2_with fail
  rw [e64]
  refine (here_write H2.out _ _ _ (by omega) (by have := hp2.out; omega)).mono ?_
  rintro e w3 ⟨rfl, hh⟩
  rw [Int.toNat_natCast] at hh ⊢
  rw [Q2.out]
  have H3 : Hid (PlicHere w _ (onB m 8192) w3) := hh
  clear hh H2 Q2
  go_wp2_with fail
  refine (here_tick H3.out _ (by omega) hp2.out).mono ?_
  rintro e w5 ⟨rfl, hh⟩
  rw [Int.toNat_natCast] at hh
  have H5 : Hid (PlicHere w _ (onC m 8192) w5) := hh
  clear hh H3
  go_wp2_with fail
  refine (here_read H5.out _ _).mono ?_
  rintro e w6 ⟨rfl, hh⟩
  rw [Q3.out, Q4.out]
  have H6 : Hid (PlicHere w _ (onD m 8192 2097156) w6) := hh
  clear hh H5 Q3 Q4
  go_wp2_with fail
  refine (here_lines H6.out).mono ?_
  rintro e w7 ⟨rfl, hh⟩
  rw [Q5.out]
  have H7 := Lib.hid hh
  clear hh H6 Q5
  go_wp2_with fail
  go_loopw [15] (fun i wr => ∃ k : Nat, k ≤ q ∧ i = .int .i64 k ∧ ∃ d, (d = onD m 8192 2097156 ∨ d = onE m 8192 2097156) ∧ PlicHere w w.heap.size d wr) (fun i _ => q - (intOf i).toNat)
  case atStart => exact ⟨0, Nat.zero_le _, rfl, _, .inl rfl, H7.out⟩
  case round =>
    clear H7
    obtain ⟨k, hk, rfl, d, hd, hh⟩ := hrel
    have H8 := Lib.hid hh; clear hh
    by_cases hlt : k < q
    · have hE : Hid (d.tick (254 : Int).toNat = onE m 8192 2097156) := by
        rcases hd with rfl | rfl
        · rfl
        · exact Q6.out
      clear hd
      have hlt' : (k : Int) < q := by omega
      go_wp2_with fail
      refine (here_tick H8.out 254 (by omega) (by omega)).mono ?_
      rintro e w9 ⟨rfl, hh⟩
      rw [hE.out] at hh
      have H9 := Lib.hid hh; clear hh H8
      go_wp2_with fail
      refine (here_best H9.out 0 (by omega) (by omega)).mono ?_
      rintro e w10 ⟨rfl, hh⟩
      rw [show (onE m 8192 2097156).best (0 : Int).toNat = 0 from Q7.out]
      have H10 := Lib.hid hh; clear hh H9
      go_wp2_with fail
      refine (here_lines H10.out).mono ?_
      rintro e w11 ⟨rfl, hh⟩
      rw [Q8.out]
      have H11 := Lib.hid hh; clear hh H10
      go_wp2_with fail
      go_roundw
      case rel => exact ⟨k + 1, by omega, by go_num, _, .inr rfl, H11.out⟩
      case measure => simp [intOf]; omega
    · have hge : ¬ (k : Int) < q := by omega
      obtain ⟨f1, f2, f3⟩ := QD.out d hd
      have F1 := Lib.hid f1; have F2 := Lib.hid f2; have F3 := Lib.hid f3
      clear hd f1 f2 f3
      go_wp2_with fail
      refine (here_write H8.out _ _ _ (by omega) (by omega)).mono ?_
      rintro e w9 ⟨rfl, hh⟩
      rw [show ((1 : Int) + m).toNat = 1 + m by omega] at hh ⊢
      rw [F1.out]
      have H9 : Hid (PlicHere w _ (onF m d 2097156) w9) := hh
      clear hh H8
      go_wp2_with fail
      refine (here_tick H9.out _ (by omega) hp2.out).mono ?_
      rintro e w10 ⟨rfl, hh⟩
      rw [Int.toNat_natCast] at hh
      have H10 := Lib.hid hh; clear hh H9
      go_wp2_with fail
      refine (here_best H10.out 0 (by omega) (by omega)).mono ?_
      rintro e w11 ⟨rfl, hh⟩
      rw [show (Dev.tick (onF m d 2097156) (pow2 (1 + m))).best (0 : Int).toNat = 1 + m from F2.out]
      have H11 := Lib.hid hh; clear hh H10
      go_wp2_with fail
      go_ret
      exact ⟨rfl, H11.out.below⟩
set_option maxRecDepth 100000 in
set_option maxHeartbeats 4000000 in
theorem once_10 (source ticks : Int) (m q : Nat) (hm : m < 7) (hq : q < 50) (em : wrap64 ((IntKind.u64.wrap source).tmod 7) = (m : Int)) (eq : wrap64 ((IntKind.u64.wrap ticks).tmod 50) = (q : Int)) (w : World) :
    Calls Try.prog 4 #[.int .i64 source, .int .i64 ticks, .bool false, .bool true] w fun e w' => e = .returned (.bool true) ∧ Below w.heap.size w w' := by
  have hon := on_all1 ⟨m, hm⟩
  simp only [onOk, Bool.and_eq_true, beq_iff_eq] at hon
  obtain ⟨⟨⟨⟨⟨⟨⟨⟨⟨⟨⟨⟨⟨q1, q2⟩, q3⟩, q4⟩, q5⟩, q6⟩, q7⟩, q8⟩, q9⟩, q10⟩, q11⟩, q12⟩, q13⟩, q14⟩ := hon
  have Q1 := Lib.hid q1; have Q2 := Lib.hid q2; have Q3 := Lib.hid q3; have Q4 := Lib.hid q4; have Q5 := Lib.hid q5; have Q6 := Lib.hid (tick_same _ _ q6); have Q7 := Lib.hid q7; have Q8 := Lib.hid q8
  have QD : Hid (∀ d, (d = onD m 8320 2101252 ∨ d = onE m 8320 2101252) → (d.write 2101252 4 (1 + m)).1 = 0 ∧ ((onF m d 2101252).tick (pow2 (1 + m))).best 1 = 1 + m ∧ (onF m d 2101252).best 1 = 0) := by
    rintro d (rfl | rfl)
    · exact ⟨q9, q11, q13⟩
    · exact ⟨q10, q12, q14⟩
  clear q1 q2 q3 q4 q5 q6 q7 q8 q9 q10 q11 q12 q13 q14
  have m7 : (m : Int) < 7 := by omega
  have HM := Lib.hid hm
  have HQ := Lib.hid hq
  have q50 : (q : Int) < 50 := by omega
  have hz : ((0 : Int) == 1 + (m : Int)) = false := by simp; omega
  have e0 := shl1_32 (s := 1 + m) (by omega)
  have e64 := shl1_64 (s := 1 + m) (by omega)
  clear hm hq
  have hp2 : Hid ((pow2 (1 + m) : Int) < 4294967296) := Int.ofNat_lt.2 (pow2_lt (s := 1 + m) (by have := HM.out; omega))
  go_enter Try.func4, Try.ntmps4
  go_wp2_with fail
  refine (plic_new _).mono ?_
  rintro e w1 ⟨rfl, rfl⟩
  have H := Lib.hid (PlicHere.new w)
  go_wp2_with fail
  clear em
  refine (plic_awake _).mono ?_
  rintro e w1 ⟨rfl, hb⟩
  have H1 := Lib.hid (H.out.keep hb); clear hb H
  go_wp2_with fail
  refine (here_write H1.out _ _ _ (by omega) (by omega)).mono ?_
  rintro e w2 ⟨rfl, hh⟩
  rw [show (dev0.write (4 * (1 + (m : Int))) 4 (1 : Int).toNat).1 = 0 from Q1.out]
  have H2 : Hid (PlicHere w _ (onA m) w2) := hh
  clear hh H1 Q1
  go_wp2_with fail
  rw [e64]
  refine (here_write H2.out _ _ _ (by omega) (by have := hp2.out; omega)).mono ?_
  rintro e w3 ⟨rfl, hh⟩
  rw [Int.toNat_natCast] at hh ⊢
  rw [Q2.out]
  have H3 : Hid (PlicHere w _ (onB m 8320) w3) := hh
  clear hh H2 Q2
  go_wp2_with fail
  refine (here_tick H3.out _ (by omega) hp2.out).mono ?_
  rintro e w5 ⟨rfl, hh⟩
  rw [Int.toNat_natCast] at hh
  have H5 : Hid (PlicHere w _ (onC m 8320) w5) := hh
  clear hh H3
  go_wp2_with fail
  refine (here_read H5.out _ _).mono ?_
  rintro e w6 ⟨rfl, hh⟩
  rw [Q3.out, Q4.out]
  have H6 : Hid (PlicHere w _ (onD m 8320 2101252) w6) := hh
  clear hh H5 Q3 Q4
  go_wp2_with fail
  refine (here_lines H6.out).mono ?_
  rintro e w7 ⟨rfl, hh⟩
  rw [Q5.out]
  have H7 := Lib.hid hh
  clear hh H6 Q5
  go_wp2_with fail
  go_loopw [15] (fun i wr => ∃ k : Nat, k ≤ q ∧ i = .int .i64 k ∧ ∃ d, (d = onD m 8320 2101252 ∨ d = onE m 8320 2101252) ∧ PlicHere w w.heap.size d wr) (fun i _ => q - (intOf i).toNat)
  case atStart => exact ⟨0, Nat.zero_le _, rfl, _, .inl rfl, H7.out⟩
  case round =>
    clear H7
    obtain ⟨k, hk, rfl, d, hd, hh⟩ := hrel
    have H8 := Lib.hid hh; clear hh
    by_cases hlt : k < q
    · have hE : Hid (d.tick (254 : Int).toNat = onE m 8320 2101252) := by
        rcases hd with rfl | rfl
        · rfl
        · exact Q6.out
      clear hd
      have hlt' : (k : Int) < q := by omega
      go_wp2_with fail
      refine (here_tick H8.out 254 (by omega) (by omega)).mono ?_
      rintro e w9 ⟨rfl, hh⟩
      rw [hE.out] at hh
      have H9 := Lib.hid hh; clear hh H8
      go_wp2_with fail
      refine (here_best H9.out 1 (by omega) (by omega)).mono ?_
      rintro e w10 ⟨rfl, hh⟩
      rw [show (onE m 8320 2101252).best (1 : Int).toNat = 0 from Q7.out]
      have H10 := Lib.hid hh; clear hh H9
      go_wp2_with fail
      refine (here_lines H10.out).mono ?_
      rintro e w11 ⟨rfl, hh⟩
      rw [Q8.out]
      have H11 := Lib.hid hh; clear hh H10
      go_wp2_with fail
      go_roundw
      case rel => exact ⟨k + 1, by omega, by go_num, _, .inr rfl, H11.out⟩
      case measure => simp [intOf]; omega
    · have hge : ¬ (k : Int) < q := by omega
      obtain ⟨f1, f2, f3⟩ := QD.out d hd
      have F1 := Lib.hid f1; have F2 := Lib.hid f2; have F3 := Lib.hid f3
      clear hd f1 f2 f3
      go_wp2_with fail
      refine (here_write H8.out _ _ _ (by omega) (by omega)).mono ?_
      rintro e w9 ⟨rfl, hh⟩
      rw [show ((1 : Int) + m).toNat = 1 + m by omega] at hh ⊢
      rw [F1.out]
      have H9 : Hid (PlicHere w _ (onF m d 2101252) w9) := hh
      clear hh H8
      go_wp2_with fail
      refine (here_best H9.out 1 (by omega) (by omega)).mono ?_
      rintro e w11 ⟨rfl, hh⟩
      rw [show (onF m d 2101252).best (1 : Int).toNat = 0 from F3.out]
      have H11 := Lib.hid hh; clear hh H9
      go_wp2_with fail
      go_ret
      exact ⟨rfl, H11.out.below⟩
set_option maxRecDepth 100000 in
set_option maxHeartbeats 4000000 in
theorem once_11 (source ticks : Int) (m q : Nat) (hm : m < 7) (hq : q < 50) (em : wrap64 ((IntKind.u64.wrap source).tmod 7) = (m : Int)) (eq : wrap64 ((IntKind.u64.wrap ticks).tmod 50) = (q : Int)) (w : World) :
    Calls Try.prog 4 #[.int .i64 source, .int .i64 ticks, .bool true, .bool true] w fun e w' => e = .returned (.bool true) ∧ Below w.heap.size w w' := by
  have hon := on_all1 ⟨m, hm⟩
  simp only [onOk, Bool.and_eq_true, beq_iff_eq] at hon
  obtain ⟨⟨⟨⟨⟨⟨⟨⟨⟨⟨⟨⟨⟨q1, q2⟩, q3⟩, q4⟩, q5⟩, q6⟩, q7⟩, q8⟩, q9⟩, q10⟩, q11⟩, q12⟩, q13⟩, q14⟩ := hon
  have Q1 := Lib.hid q1; have Q2 := Lib.hid q2; have Q3 := Lib.hid q3; have Q4 := Lib.hid q4; have Q5 := Lib.hid q5; have Q6 := Lib.hid (tick_same _ _ q6); have Q7 := Lib.hid q7; have Q8 := Lib.hid q8
  have QD : Hid (∀ d, (d = onD m 8320 2101252 ∨ d = onE m 8320 2101252) → (d.write 2101252 4 (1 + m)).1 = 0 ∧ ((onF m d 2101252).tick (pow2 (1 + m))).best 1 = 1 + m ∧ (onF m d 2101252).best 1 = 0) := by
    rintro d (rfl | rfl)
    · exact ⟨q9, q11, q13⟩
    · exact ⟨q10, q12, q14⟩
  clear q1 q2 q3 q4 q5 q6 q7 q8 q9 q10 q11 q12 q13 q14
  have m7 : (m : Int) < 7 := by omega
  have HM := Lib.hid hm
  have HQ := Lib.hid hq
  have q50 : (q : Int) < 50 := by omega
  have hz : ((0 : Int) == 1 + (m : Int)) = false := by simp; omega
  have e0 := shl1_32 (s := 1 + m) (by omega)
  have e64 := shl1_64 (s := 1 + m) (by omega)
  clear hm hq
  have hp2 : Hid ((pow2 (1 + m) : Int) < 4294967296) := Int.ofNat_lt.2 (pow2_lt (s := 1 + m) (by have := HM.out; omega))
  go_enter Try.func4, Try.ntmps4
  go_wp2_with fail
  refine (plic_new _).mono ?_
  rintro e w1 ⟨rfl, rfl⟩
  have H := Lib.hid (PlicHere.new w)
  go_wp2_with fail
  clear em
  refine (plic_awake _).mono ?_
  rintro e w1 ⟨rfl, hb⟩
  have H1 := Lib.hid (H.out.keep hb); clear hb H
  go_wp2_with fail
  refine (here_write H1.out _ _ _ (by omega) (by omega)).mono ?_
  rintro e w2 ⟨rfl, hh⟩
  rw [show (dev0.write (4 * (1 + (m : Int))) 4 (1 : Int).toNat).1 = 0 from Q1.out]
  have H2 : Hid (PlicHere w _ (onA m) w2) := hh
  clear hh H1 Q1
  go_wp2_with fail
  rw [e64]
  refine (here_write H2.out _ _ _ (by omega) (by have := hp2.out; omega)).mono ?_
  rintro e w3 ⟨rfl, hh⟩
  rw [Int.toNat_natCast] at hh ⊢
  rw [Q2.out]
  have H3 : Hid (PlicHere w _ (onB m 8320) w3) := hh
  clear hh H2 Q2
  go_wp2_with fail
  refine (here_tick H3.out _ (by omega) hp2.out).mono ?_
  rintro e w5 ⟨rfl, hh⟩
  rw [Int.toNat_natCast] at hh
  have H5 : Hid (PlicHere w _ (onC m 8320) w5) := hh
  clear hh H3
  go_wp2_with fail
  refine (here_read H5.out _ _).mono ?_
  rintro e w6 ⟨rfl, hh⟩
  rw [Q3.out, Q4.out]
  have H6 : Hid (PlicHere w _ (onD m 8320 2101252) w6) := hh
  clear hh H5 Q3 Q4
  go_wp2_with fail
  refine (here_lines H6.out).mono ?_
  rintro e w7 ⟨rfl, hh⟩
  rw [Q5.out]
  have H7 := Lib.hid hh
  clear hh H6 Q5
  go_wp2_with fail
  go_loopw [15] (fun i wr => ∃ k : Nat, k ≤ q ∧ i = .int .i64 k ∧ ∃ d, (d = onD m 8320 2101252 ∨ d = onE m 8320 2101252) ∧ PlicHere w w.heap.size d wr) (fun i _ => q - (intOf i).toNat)
  case atStart => exact ⟨0, Nat.zero_le _, rfl, _, .inl rfl, H7.out⟩
  case round =>
    clear H7
    obtain ⟨k, hk, rfl, d, hd, hh⟩ := hrel
    have H8 := Lib.hid hh; clear hh
    by_cases hlt : k < q
    · have hE : Hid (d.tick (254 : Int).toNat = onE m 8320 2101252) := by
        rcases hd with rfl | rfl
        · rfl
        · exact Q6.out
      clear hd
      have hlt' : (k : Int) < q := by omega
      go_wp2_with fail
      refine (here_tick H8.out 254 (by omega) (by omega)).mono ?_
      rintro e w9 ⟨rfl, hh⟩
      rw [hE.out] at hh
      have H9 := Lib.hid hh; clear hh H8
      go_wp2_with fail
      refine (here_best H9.out 1 (by omega) (by omega)).mono ?_
      rintro e w10 ⟨rfl, hh⟩
      rw [show (onE m 8320 2101252).best (1 : Int).toNat = 0 from Q7.out]
      have H10 := Lib.hid hh; clear hh H9
      go_wp2_with fail
      refine (here_lines H10.out).mono ?_
      rintro e w11 ⟨rfl, hh⟩
      rw [Q8.out]
      have H11 := Lib.hid hh; clear hh H10
      go_wp2_with fail
      go_roundw
      case rel => exact ⟨k + 1, by omega, by go_num, _, .inr rfl, H11.out⟩
      case measure => simp [intOf]; omega
    · have hge : ¬ (k : Int) < q := by omega
      obtain ⟨f1, f2, f3⟩ := QD.out d hd
      have F1 := Lib.hid f1; have F2 := Lib.hid f2; have F3 := Lib.hid f3
      clear hd f1 f2 f3
      go_wp2_with fail
      refine (here_write H8.out _ _ _ (by omega) (by omega)).mono ?_
      rintro e w9 ⟨rfl, hh⟩
      rw [show ((1 : Int) + m).toNat = 1 + m by omega] at hh ⊢
      rw [F1.out]
      have H9 : Hid (PlicHere w _ (onF m d 2101252) w9) := hh
      clear hh H8
      go_wp2_with fail
      refine (here_tick H9.out _ (by omega) hp2.out).mono ?_
      rintro e w10 ⟨rfl, hh⟩
      rw [Int.toNat_natCast] at hh
      have H10 := Lib.hid hh; clear hh H9
      go_wp2_with fail
      refine (here_best H10.out 1 (by omega) (by omega)).mono ?_
      rintro e w11 ⟨rfl, hh⟩
      rw [show (Dev.tick (onF m d 2101252) (pow2 (1 + m))).best (1 : Int).toNat = 1 + m from F2.out]
      have H11 := Lib.hid hh; clear hh H10
      go_wp2_with fail
      go_ret
      exact ⟨rfl, H11.out.below⟩
theorem plic_once_walk (a0 : Int) (w0 : (Lit.int .i64 a0).wf = true) (a1 : Int) (w1 : (Lit.int .i64 a1).wf = true) (a2 : Bool) (a3 : Bool) (w : World) :
    Calls Try.prog 4 #[.int .i64 a0, .int .i64 a1, .bool a2, .bool a3] w fun e w' => e = .returned (.bool true) ∧ Below w.heap.size w w' := by
  obtain ⟨m, hm, em⟩ := mod_u a0 7 (by omega) (by omega)
  obtain ⟨q, hq, eq⟩ := mod_u a1 50 (by omega) (by omega)
  have hm : m < 7 := by omega
  have hq : q < 50 := by omega
  cases a2 <;> cases a3
  · exact once_00 a0 a1 m q hm hq em eq w
  · exact once_10 a0 a1 m q hm hq em eq w
  · exact once_01 a0 a1 m q hm hq em eq w
  · exact once_11 a0 a1 m q hm hq em eq w
end Go.Proofs.Ytebdbbpefmgooaa
