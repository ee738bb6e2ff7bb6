/- The law PlicThreshold, walked. No condition. -/
import Derived.Test.YtebdbbpefmgooaaPlicHere
import Derived.StillTailTactics
import Derived.BigRegion
import Derived.Deep.RegionWith
import Derived.Deep.QuietTactic
import Derived.BigQuiet
import Derived.Deep.LoopGhost
import Derived.Deep.DeepCutAuto
import Derived.Deep.DeepFit
import Derived.Deep.DeepMust
set_option linter.unusedVariables false
set_option linter.unusedSimpArgs false
namespace Go.Proofs.Ytebdbbpefmgooaa
open Go.RowKit
attribute [local go_sem ↓] ld_dev ld_ref ld_plc st_dev st_ref st_plc
attribute [local go_sem] rl_dev rl_ref rl_plc rs_dev rs_ref rs_plc Dev.size_cells Dev.st_ok Dev.c0 Dev.c1 Dev.c2 Dev.c3 Dev.c4 Dev.c5 Dev.c6 Dev.c7 Dev.c8 Dev.c9 Dev.c10 Dev.c11 Dev.c12 Dev.c13 Dev.c14 Dev.c15 Dev.c16 Dev.c17 Dev.c18 Dev.c19 Dev.c20 Dev.c21 Dev.set_pend Dev.set_cla row_alloc row_drew row_drewN is_alloc is_drew is_drewN row_setCell is_setCell setRow_alloc_new objRow_cells objIs_cells row_setRow_same row_setRow_other is_setRow_same is_setRow_other
/-- the steps of PlicThreshold -/
def thA (m k : Nat) : Dev := (dev0.write (4 * (1 + (m : Int))) 4 k).2
def thB (m k : Nat) (o1 : Int) : Dev := ((thA m k).write o1 4 254).2
def thD (m k t : Nat) (o1 o2 : Int) : Dev := ((thB m k o1).write o2 4 t).2
def thE (m k t : Nat) (o1 o2 : Int) : Dev := (thD m k t o1 o2).tick (pow2 (1 + m))
def thOk (m k t : Nat) (o1 o2 o3 : Int) (line : Nat) : Bool :=
  ((dev0.write (4 * (1 + (m : Int))) 4 k).1 == 0) && (((thA m k).write o1 4 254).1 == 0) && (((thB m k o1).write o2 4 t).1 == 0) &&
  ((thE m k t o1 o2).lns == (if t < k then line else 0)) &&
  (((thE m k t o1 o2).read o3 4).1 == (if 0 < k then 1 + m else 0)) && (((thE m k t o1 o2).read o3 4).2.1 == 0) &&
  (((thE m k t o1 o2).read o3 4).2.2.lns == 0)
theorem th_all0 : ∀ m : Fin 7, ∀ k : Fin 8, ∀ t : Fin 8, thOk m.val k.val t.val 8192 2097152 2097156 2048 = true := by decide +kernel
theorem th_all1 : ∀ m : Fin 7, ∀ k : Fin 8, ∀ t : Fin 8, thOk m.val k.val t.val 8320 2101248 2101252 512 = true := by decide +kernel
theorem mod_u (x : Int) (n : Int) (hn : 0 < n) (hn2 : n ≤ 4096) : ∃ m : Nat, (m : Int) < n ∧ wrap64 ((IntKind.u64.wrap x).tmod n) = (m : Int) := by
  have h1 := Int.emod_lt_of_pos (x % 18446744073709551616) hn
  have h2 := Int.emod_nonneg (x % 18446744073709551616) (show n ≠ 0 by omega)
  refine ⟨((x % 18446744073709551616) % n).toNat, by omega, ?_⟩
  rw [IntKind.wrap_u64, Int.tmod_eq_emod_of_nonneg (by omega)]
  unfold wrap64
  omega
set_option maxRecDepth 100000 in
set_option maxHeartbeats 4000000 in
theorem thr_0gt (prio thresh source : Int) (m k t : Nat) (hm : m < 7) (hk : k < 8) (ht : t < 8) (em : wrap64 ((IntKind.u64.wrap source).tmod 7) = (m : Int)) (ek : wrap64 ((IntKind.u64.wrap prio).tmod 8) = (k : Int)) (et : wrap64 ((IntKind.u64.wrap thresh).tmod 8) = (t : Int)) (hkt : t < k) (w : World) :
    Calls Try.prog 6 #[.int .i64 prio, .int .i64 thresh, .int .i64 source, .bool false] w fun e w' => e = .returned (.bool true) ∧ Below w.heap.size w w' := by
  have hth := th_all0 ⟨m, hm⟩ ⟨k, hk⟩ ⟨t, ht⟩
  simp only [thOk, Bool.and_eq_true, beq_iff_eq, if_pos hkt, if_pos (Nat.lt_of_le_of_lt (Nat.zero_le _) hkt)] at hth
  obtain ⟨⟨⟨⟨⟨⟨q1, q2⟩, q3⟩, q4⟩, q5⟩, q6⟩, q7⟩ := hth
  have Q1 := Lib.hid q1; have Q2 := Lib.hid q2; have Q3 := Lib.hid q3; have Q4 := Lib.hid q4; have Q5 := Lib.hid q5; have Q6 := Lib.hid q6; have Q7 := Lib.hid q7
  clear q1 q2 q3 q4 q5 q6 q7
  have m7 : (m : Int) < 7 := by omega
  have k8 : (k : Int) < 8 := by omega
  have t8 : (t : Int) < 8 := by omega
  have HM := Lib.hid hm; have HK := Lib.hid hk; have HT := Lib.hid ht; have HKT := Lib.hid hkt
  have kt : (t : Int) < k := by omega
  have k0 : (0 : Int) < k := by omega
  have e0 := shl1_32 (s := 1 + m) (by omega)
  clear hm hk ht hkt
  go_enter Try.func6, Try.ntmps6
  go_wp2_with fail
  refine (plic_new _).mono ?_
  rintro e w1 ⟨rfl, rfl⟩
  have H := Lib.hid (PlicHere.new w)
  go_wp2_with fail
  rw [ek, et]
  clear em ek et
  refine (plic_awake _).mono ?_
  rintro e w1 ⟨rfl, hb⟩
  have H1 := Lib.hid (H.out.keep hb); clear hb H
  go_wp2_with fail
  refine (here_write H1.out _ _ _ (by omega) (by omega)).mono ?_
  rintro e w2 ⟨rfl, hh⟩
  rw [Int.toNat_natCast] at hh ⊢
  rw [Q1.out]
  have H2 : Hid (PlicHere w _ (thA m k) w2) := hh
  clear hh H1 Q1
  go_wp2_with fail
  refine (here_write H2.out _ _ _ (by omega) (by omega)).mono ?_
  rintro e w3 ⟨rfl, hh⟩
  rw [show ((thA m k).write 8192 4 (254 : Int).toNat).1 = 0 from Q2.out]
  have H3 : Hid (PlicHere w _ (thB m k 8192) w3) := hh
  clear hh H2 Q2
  go_wp2_with fail
  refine (here_write H3.out _ _ _ (by omega) (by omega)).mono ?_
  rintro e w4 ⟨rfl, hh⟩
  rw [Int.toNat_natCast] at hh ⊢
  rw [Q3.out]
  have H4 : Hid (PlicHere w _ (thD m k t 8192 2097152) w4) := hh
  clear hh H3 Q3
  go_wp2_with fail
  refine (here_tick H4.out _ (by omega) (Int.ofNat_lt.2 (pow2_lt (s := 1 + m) (by have := HM.out; omega)))).mono ?_
  rintro e w5 ⟨rfl, hh⟩
  rw [Int.toNat_natCast] at hh
  have H5 : Hid (PlicHere w _ (thE m k t 8192 2097152) w5) := hh
  clear hh H4
  go_wp2_with fail
  refine (here_lines H5.out).mono ?_
  rintro e w6 ⟨rfl, hh⟩
  rw [Q4.out]
  have H6 := Lib.hid hh
  clear hh H5
  go_wp2_with fail
  refine (here_lines H6.out).mono ?_
  rintro e w7 ⟨rfl, hh⟩
  rw [Q4.out]
  have H7 := Lib.hid hh
  clear hh H6
  go_wp2_with fail
  refine (here_lines H7.out).mono ?_
  rintro e w8 ⟨rfl, hh⟩
  rw [Q4.out]
  have H8 := Lib.hid hh
  clear hh H7
  go_wp2_with fail
  refine (here_read H8.out _ _).mono ?_
  rintro e w9 ⟨rfl, hh⟩
  rw [Q5.out, Q6.out]
  have H9 := Lib.hid hh
  clear hh H8
  go_wp2_with fail
  refine (here_lines H9.out).mono ?_
  rintro e w10 ⟨rfl, hh⟩
  rw [Q7.out]
  have H10 := Lib.hid hh
  clear hh H9
  go_wp2_with fail
  go_ret
  exact ⟨rfl, H10.out.below⟩
set_option maxRecDepth 100000 in
set_option maxHeartbeats 4000000 in
theorem thr_0le (prio thresh source : Int) (m k t : Nat) (hm : m < 7) (hk : k < 8) (ht : t < 8) (em : wrap64 ((IntKind.u64.wrap source).tmod 7) = (m : Int)) (ek : wrap64 ((IntKind.u64.wrap prio).tmod 8) = (k : Int)) (et : wrap64 ((IntKind.u64.wrap thresh).tmod 8) = (t : Int)) (hkt : ¬ t < k) (hk0 : 0 < k) (w : World) :
    Calls Try.prog 6 #[.int .i64 prio, .int .i64 thresh, .int .i64 source, .bool false] w fun e w' => e = .returned (.bool true) ∧ Below w.heap.size w w' := by
  have hth := th_all0 ⟨m, hm⟩ ⟨k, hk⟩ ⟨t, ht⟩
  simp only [thOk, Bool.and_eq_true, beq_iff_eq, if_neg hkt, if_pos hk0] at hth
  obtain ⟨⟨⟨⟨⟨⟨q1, q2⟩, q3⟩, q4⟩, q5⟩, q6⟩, q7⟩ := hth
  have Q1 := Lib.hid q1; have Q2 := Lib.hid q2; have Q3 := Lib.hid q3; have Q4 := Lib.hid q4; have Q5 := Lib.hid q5; have Q6 := Lib.hid q6; have Q7 := Lib.hid q7
  clear q1 q2 q3 q4 q5 q6 q7
  have m7 : (m : Int) < 7 := by omega
  have k8 : (k : Int) < 8 := by omega
  have t8 : (t : Int) < 8 := by omega
  have HM := Lib.hid hm; have HK := Lib.hid hk; have HT := Lib.hid ht; have HKT := Lib.hid hkt
  have kt : ¬ ((t : Int) < k) := by omega
  have k0 : (0 : Int) < k := by omega
  clear hk0
  have e0 := shl1_32 (s := 1 + m) (by omega)
  clear hm hk ht hkt
  go_enter Try.func6, Try.ntmps6
  go_wp2_with fail
  refine (plic_new _).mono ?_
  rintro e w1 ⟨rfl, rfl⟩
  have H := Lib.hid (PlicHere.new w)
  go_wp2_with fail
  rw [ek, et]
  clear em ek et
  refine (plic_awake _).mono ?_
  rintro e w1 ⟨rfl, hb⟩
  have H1 := Lib.hid (H.out.keep hb); clear hb H
  go_wp2_with fail
  refine (here_write H1.out _ _ _ (by omega) (by omega)).mono ?_
  rintro e w2 ⟨rfl, hh⟩
  rw [Int.toNat_natCast] at hh ⊢
  rw [Q1.out]
  have H2 : Hid (PlicHere w _ (thA m k) w2) := hh
  clear hh H1 Q1
  go_wp2_with fail
  refine (here_write H2.out _ _ _ (by omega) (by omega)).mono ?_
  rintro e w3 ⟨rfl, hh⟩
  rw [show ((thA m k).write 8192 4 (254 : Int).toNat).1 = 0 from Q2.out]
  have H3 : Hid (PlicHere w _ (thB m k 8192) w3) := hh
  clear hh H2 Q2
  go_wp2_with fail
  refine (here_write H3.out _ _ _ (by omega) (by omega)).mono ?_
  rintro e w4 ⟨rfl, hh⟩
  rw [Int.toNat_natCast] at hh ⊢
  rw [Q3.out]
  have H4 : Hid (PlicHere w _ (thD m k t 8192 2097152) w4) := hh
  clear hh H3 Q3
  go_wp2_with fail
  refine (here_tick H4.out _ (by omega) (Int.ofNat_lt.2 (pow2_lt (s := 1 + m) (by have := HM.out; omega)))).mono ?_
  rintro e w5 ⟨rfl, hh⟩
  rw [Int.toNat_natCast] at hh
  have H5 : Hid (PlicHere w _ (thE m k t 8192 2097152) w5) := hh
  clear hh H4
  go_wp2_with fail
  refine (here_lines H5.out).mono ?_
  rintro e w6 ⟨rfl, hh⟩
  rw [Q4.out]
  have H6 := Lib.hid hh
  clear hh H5
  go_wp2_with fail
  refine (here_lines H6.out).mono ?_
  rintro e w7 ⟨rfl, hh⟩
  rw [Q4.out]
  have H7 := Lib.hid hh
  clear hh H6
  have H8 := H7; clear H7
  go_wp2_with fail
  refine (here_read H8.out _ _).mono ?_
  rintro e w9 ⟨rfl, hh⟩
  rw [Q5.out, Q6.out]
  have H9 := Lib.hid hh
  clear hh H8
  go_wp2_with fail
  refine (here_lines H9.out).mono ?_
  rintro e w10 ⟨rfl, hh⟩
  rw [Q7.out]
  have H10 := Lib.hid hh
  clear hh H9
  go_wp2_with fail
  go_ret
  exact ⟨rfl, H10.out.below⟩
set_option maxRecDepth 100000 in
set_option maxHeartbeats 4000000 in
theorem thr_0z (prio thresh source : Int) (m k t : Nat) (hm : m < 7) (hk : k < 8) (ht : t < 8) (em : wrap64 ((IntKind.u64.wrap source).tmod 7) = (m : Int)) (ek : wrap64 ((IntKind.u64.wrap prio).tmod 8) = (k : Int)) (et : wrap64 ((IntKind.u64.wrap thresh).tmod 8) = (t : Int)) (hkt : ¬ t < k) (hk0 : ¬ 0 < k) (w : World) :
    Calls Try.prog 6 #[.int .i64 prio, .int .i64 thresh, .int .i64 source, .bool false] w fun e w' => e = .returned (.bool true) ∧ Below w.heap.size w w' := by
  have hth := th_all0 ⟨m, hm⟩ ⟨k, hk⟩ ⟨t, ht⟩
  simp only [thOk, Bool.and_eq_true, beq_iff_eq, if_neg hkt, if_neg hk0] at hth
  obtain ⟨⟨⟨⟨⟨⟨q1, q2⟩, q3⟩, q4⟩, q5⟩, q6⟩, q7⟩ := hth
  have Q1 := Lib.hid q1; have Q2 := Lib.hid q2; have Q3 := Lib.hid q3; have Q4 := Lib.hid q4; have Q5 := Lib.hid q5; have Q6 := Lib.hid q6; have Q7 := Lib.hid q7
  clear q1 q2 q3 q4 q5 q6 q7
  have m7 : (m : Int) < 7 := by omega
  have k8 : (k : Int) < 8 := by omega
  have t8 : (t : Int) < 8 := by omega
  have HM := Lib.hid hm; have HK := Lib.hid hk; have HT := Lib.hid ht; have HKT := Lib.hid hkt
  have kt : ¬ ((t : Int) < k) := by omega
  have k0 : ¬ ((0 : Int) < k) := by omega
  clear hk0
  have e0 := shl1_32 (s := 1 + m) (by omega)
  clear hm hk ht hkt
  go_enter Try.func6, Try.ntmps6
  go_wp2_with fail
  refine (plic_new _).mono ?_
  rintro e w1 ⟨rfl, rfl⟩
  have H := Lib.hid (PlicHere.new w)
  go_wp2_with fail
  rw [ek, et]
  clear em ek et
  refine (plic_awake _).mono ?_
  rintro e w1 ⟨rfl, hb⟩
  have H1 := Lib.hid (H.out.keep hb); clear hb H
  go_wp2_with fail
  refine (here_write H1.out _ _ _ (by omega) (by omega)).mono ?_
  rintro e w2 ⟨rfl, hh⟩
  rw [Int.toNat_natCast] at hh ⊢
  rw [Q1.out]
  have H2 : Hid (PlicHere w _ (thA m k) w2) := hh
  clear hh H1 Q1
  go_wp2_with fail
  refine (here_write H2.out _ _ _ (by omega) (by omega)).mono ?_
  rintro e w3 ⟨rfl, hh⟩
  rw [show ((thA m k).write 8192 4 (254 : Int).toNat).1 = 0 from Q2.out]
  have H3 : Hid (PlicHere w _ (thB m k 8192) w3) := hh
  clear hh H2 Q2
  go_wp2_with fail
  refine (here_write H3.out _ _ _ (by omega) (by omega)).mono ?_
  rintro e w4 ⟨rfl, hh⟩
  rw [Int.toNat_natCast] at hh ⊢
  rw [Q3.out]
  have H4 : Hid (PlicHere w _ (thD m k t 8192 2097152) w4) := hh
  clear hh H3 Q3
  go_wp2_with fail
  refine (here_tick H4.out _ (by omega) (Int.ofNat_lt.2 (pow2_lt (s := 1 + m) (by have := HM.out; omega)))).mono ?_
  rintro e w5 ⟨rfl, hh⟩
  rw [Int.toNat_natCast] at hh
  have H5 : Hid (PlicHere w _ (thE m k t 8192 2097152) w5) := hh
  clear hh H4
  go_wp2_with fail
  refine (here_lines H5.out).mono ?_
  rintro e w6 ⟨rfl, hh⟩
  rw [Q4.out]
  have H6 := Lib.hid hh
  clear hh H5
  go_wp2_with fail
  refine (here_lines H6.out).mono ?_
  rintro e w7 ⟨rfl, hh⟩
  rw [Q4.out]
  have H7 := Lib.hid hh
  clear hh H6
  have H8 := H7; clear H7
  go_wp2_with fail
  refine (here_read H8.out _ _).mono ?_
  rintro e w9 ⟨rfl, hh⟩
  rw [Q5.out, Q6.out]
  have H9 := Lib.hid hh
  clear hh H8
  go_wp2_with fail
  refine (here_lines H9.out).mono ?_
  rintro e w10 ⟨rfl, hh⟩
  rw [Q7.out]
  have H10 := Lib.hid hh
  clear hh H9
  go_wp2_with fail
  go_ret
  exact ⟨rfl, H10.out.below⟩
set_option maxRecDepth 100000 in
set_option maxHeartbeats 4000000 in
theorem thr_1gt (prio thresh source : Int) (m k t : Nat) (hm : m < 7) (hk : k < 8) (ht : t < 8) (em : wrap64 ((IntKind.u64.wrap source).tmod 7) = (m : Int)) (ek : wrap64 ((IntKind.u64.wrap prio).tmod 8) = (k : Int)) (et : wrap64 ((IntKind.u64.wrap thresh).tmod 8) = (t : Int)) (hkt : t < k) (w : World) :
    Calls Try.prog 6 #[.int .i64 prio, .int .i64 thresh, .int .i64 source, .bool true] w fun e w' => e = .returned (.bool true) ∧ Below w.heap.size w w' := by
  have hth := th_all1 ⟨m, hm⟩ ⟨k, hk⟩ ⟨t, ht⟩
  simp only [thOk, Bool.and_eq_true, beq_iff_eq, if_pos hkt, if_pos (Nat.lt_of_le_of_lt (Nat.zero_le _) hkt)] at hth
  obtain ⟨⟨⟨⟨⟨⟨q1, q2⟩, q3⟩, q4⟩, q5⟩, q6⟩, q7⟩ := hth
  have Q1 := Lib.hid q1; have Q2 := Lib.hid q2; have Q3 := Lib.hid q3; have Q4 := Lib.hid q4; have Q5 := Lib.hid q5; have Q6 := Lib.hid q6; have Q7 := Lib.hid q7
  clear q1 q2 q3 q4 q5 q6 q7
  have m7 : (m : Int) < 7 := by omega
  have k8 : (k : Int) < 8 := by omega
  have t8 : (t : Int) < 8 := by omega
  have HM := Lib.hid hm; have HK := Lib.hid hk; have HT := Lib.hid ht; have HKT := Lib.hid hkt
  have kt : (t : Int) < k := by omega
  have k0 : (0 : Int) < k := by omega
  have e0 := shl1_32 (s := 1 + m) (by omega)
  clear hm hk ht hkt
  go_enter Try.func6, Try.ntmps6
  go_wp2_with fail
  refine (plic_new _).mono ?_
  rintro e w1 ⟨rfl, rfl⟩
  have H := Lib.hid (PlicHere.new w)
  go_wp2_with fail
  rw [ek, et]
  clear em ek et
  refine (plic_awake _).mono ?_
  rintro e w1 ⟨rfl, hb⟩
  have H1 := Lib.hid (H.out.keep hb); clear hb H
  go_wp2_with fail
  refine (here_write H1.out _ _ _ (by omega) (by omega)).mono ?_
  rintro e w2 ⟨rfl, hh⟩
  rw [Int.toNat_natCast] at hh ⊢
  rw [Q1.out]
  have H2 : Hid (PlicHere w _ (thA m k) w2) := hh
  clear hh H1 Q1
  go_wp2_with fail
  refine (here_write H2.out _ _ _ (by omega) (by omega)).mono ?_
  rintro e w3 ⟨rfl, hh⟩
  rw [show ((thA m k).write 8320 4 (254 : Int).toNat).1 = 0 from Q2.out]
  have H3 : Hid (PlicHere w _ (thB m k 8320) w3) := hh
  clear hh H2 Q2
  go_wp2_with fail
  refine (here_write H3.out _ _ _ (by omega) (by omega)).mono ?_
  rintro e w4 ⟨rfl, hh⟩
  rw [Int.toNat_natCast] at hh ⊢
  rw [Q3.out]
  have H4 : Hid (PlicHere w _ (thD m k t 8320 2101248) w4) := hh
  clear hh H3 Q3
  go_wp2_with fail
  refine (here_tick H4.out _ (by omega) (Int.ofNat_lt.2 (pow2_lt (s := 1 + m) (by have := HM.out; omega)))).mono ?_
  rintro e w5 ⟨rfl, hh⟩
  rw [Int.toNat_natCast] at hh
  have H5 : Hid (PlicHere w _ (thE m k t 8320 2101248) w5) := hh
  clear hh H4
  go_wp2_with fail
  refine (here_lines H5.out).mono ?_
  rintro e w6 ⟨rfl, hh⟩
  rw [Q4.out]
  have H6 := Lib.hid hh
  clear hh H5
  go_wp2_with fail
  refine (here_lines H6.out).mono ?_
  rintro e w7 ⟨rfl, hh⟩
  rw [Q4.out]
  have H7 := Lib.hid hh
  clear hh H6
  go_wp2_with fail
  refine (here_lines H7.out).mono ?_
  rintro e w8 ⟨rfl, hh⟩
  rw [Q4.out]
  have H8 := Lib.hid hh
  clear hh H7
  go_wp2_with fail
  refine (here_read H8.out _ _).mono ?_
  rintro e w9 ⟨rfl, hh⟩
  rw [Q5.out, Q6.out]
  have H9 := Lib.hid hh
  clear hh H8
  go_wp2_with fail
  refine (here_lines H9.out).mono ?_
  rintro e w10 ⟨rfl, hh⟩
  rw [Q7.out]
  have H10 := Lib.hid hh
  clear hh H9
  go_wp2_with fail
  go_ret
  exact ⟨rfl, H10.out.below⟩
set_option maxRecDepth 100000 in
set_option maxHeartbeats 4000000 in
theorem thr_1le (prio thresh source : Int) (m k t : Nat) (hm : m < 7) (hk : k < 8) (ht : t < 8) (em : wrap64 ((IntKind.u64.wrap source).tmod 7) = (m : Int)) (ek : wrap64 ((IntKind.u64.wrap prio).tmod 8) = (k : Int)) (et : wrap64 ((IntKind.u64.wrap thresh).tmod 8) = (t : Int)) (hkt : ¬ t < k) (hk0 : 0 < k) (w : World) :
    Calls Try.prog 6 #[.int .i64 prio, .int .i64 thresh, .int .i64 source, .bool true] w fun e w' => e = .returned (.bool true) ∧ Below w.heap.size w w' := by
  have hth := th_all1 ⟨m, hm⟩ ⟨k, hk⟩ ⟨t, ht⟩
  simp only [thOk, Bool.and_eq_true, beq_iff_eq, if_neg hkt, if_pos hk0] at hth
  obtain ⟨⟨⟨⟨⟨⟨q1, q2⟩, q3⟩, q4⟩, q5⟩, q6⟩, q7⟩ := hth
  have Q1 := Lib.hid q1; have Q2 := Lib.hid q2; have Q3 := Lib.hid q3; have Q4 := Lib.hid q4; have Q5 := Lib.hid q5; have Q6 := Lib.hid q6; have Q7 := Lib.hid q7
  clear q1 q2 q3 q4 q5 q6 q7
  have m7 : (m : Int) < 7 := by omega
  have k8 : (k : Int) < 8 := by omega
  have t8 : (t : Int) < 8 := by omega
  have HM := Lib.hid hm; have HK := Lib.hid hk; have HT := Lib.hid ht; have HKT := Lib.hid hkt
  have kt : ¬ ((t : Int) < k) := by omega
  have k0 : (0 : Int) < k := by omega
  clear hk0
  have e0 := shl1_32 (s := 1 + m) (by omega)
  clear hm hk ht hkt
  go_enter Try.func6, Try.ntmps6
  go_wp2_with fail
  refine (plic_new _).mono ?_
  rintro e w1 ⟨rfl, rfl⟩
  have H := Lib.hid (PlicHere.new w)
  go_wp2_with fail
  rw [ek, et]
  clear em ek et
  refine (plic_awake _).mono ?_
  rintro e w1 ⟨rfl, hb⟩
  have H1 := Lib.hid (H.out.keep hb); clear hb H
  go_wp2_with fail
  refine (here_write H1.out _ _ _ (by omega) (by omega)).mono ?_
  rintro e w2 ⟨rfl, hh⟩
  rw [Int.toNat_natCast] at hh ⊢
  rw [Q1.out]
  have H2 : Hid (PlicHere w _ (thA m k) w2) := hh
  clear hh H1 Q1
  go_wp2_with fail
  refine (here_write H2.out _ _ _ (by omega) (by omega)).mono ?_
  rintro e w3 ⟨rfl, hh⟩
  rw [show ((thA m k).write 8320 4 (254 : Int).toNat).1 = 0 from Q2.out]
  have H3 : Hid (PlicHere w _ (thB m k 8320) w3) := hh
  clear hh H2 Q2
  go_wp2_with fail
  refine (here_write H3.out _ _ _ (by omega) (by omega)).mono ?_
  rintro e w4 ⟨rfl, hh⟩
  rw [Int.toNat_natCast] at hh ⊢
  rw [Q3.out]
  have H4 : Hid (PlicHere w _ (thD m k t 8320 2101248) w4) := hh
  clear hh H3 Q3
  go_wp2_with fail
  refine (here_tick H4.out _ (by omega) (Int.ofNat_lt.2 (pow2_lt (s := 1 + m) (by have := HM.out; omega)))).mono ?_
  rintro e w5 ⟨rfl, hh⟩
  rw [Int.toNat_natCast] at hh
  have H5 : Hid (PlicHere w _ (thE m k t 8320 2101248) w5) := hh
  clear hh H4
  go_wp2_with fail
  refine (here_lines H5.out).mono ?_
  rintro e w6 ⟨rfl, hh⟩
  rw [Q4.out]
  have H6 := Lib.hid hh
  clear hh H5
  go_wp2_with fail
  refine (here_lines H6.out).mono ?_
  rintro e w7 ⟨rfl, hh⟩
  rw [Q4.out]
  have H7 := Lib.hid hh
  clear hh H6
  have H8 := H7; clear H7
  go_wp2_with fail
  refine (here_read H8.out _ _).mono ?_
  rintro e w9 ⟨rfl, hh⟩
  rw [Q5.out, Q6.out]
  have H9 := Lib.hid hh
  clear hh H8
  go_wp2_with fail
  refine (here_lines H9.out).mono ?_
  rintro e w10 ⟨rfl, hh⟩
  rw [Q7.out]
  have H10 := Lib.hid hh
  clear hh H9
  go_wp2_with fail
  go_ret
  exact ⟨rfl, H10.out.below⟩
set_option maxRecDepth 100000 in
set_option maxHeartbeats 4000000 in
theorem thr_1z (prio thresh source : Int) (m k t : Nat) (hm : m < 7) (hk : k < 8) (ht : t < 8) (em : wrap64 ((IntKind.u64.wrap source).tmod 7) = (m : Int)) (ek : wrap64 ((IntKind.u64.wrap prio).tmod 8) = (k : Int)) (et : wrap64 ((IntKind.u64.wrap thresh).tmod 8) = (t : Int)) (hkt : ¬ t < k) (hk0 : ¬ 0 < k) (w : World) :
    Calls Try.prog 6 #[.int .i64 prio, .int .i64 thresh, .int .i64 source, .bool true] w fun e w' => e = .returned (.bool true) ∧ Below w.heap.size w w' := by
  have hth := th_all1 ⟨m, hm⟩ ⟨k, hk⟩ ⟨t, ht⟩
  simp only [thOk, Bool.and_eq_true, beq_iff_eq, if_neg hkt, if_neg hk0] at hth
  obtain ⟨⟨⟨⟨⟨⟨q1, q2⟩, q3⟩, q4⟩, q5⟩, q6⟩, q7⟩ := hth
  have Q1 := Lib.hid q1; have Q2 := Lib.hid q2; have Q3 := Lib.hid q3; have Q4 := Lib.hid q4; have Q5 := Lib.hid q5; have Q6 := Lib.hid q6; have Q7 := Lib.hid q7
  clear q1 q2 q3 q4 q5 q6 q7
  have m7 : (m : Int) < 7 := by omega
  have k8 : (k : Int) < 8 := by omega
  have t8 : (t : Int) < 8 := by omega
  have HM := Lib.hid hm; have HK := Lib.hid hk; have HT := Lib.hid ht; have HKT := Lib.hid hkt
  have kt : ¬ ((t : Int) < k) := by omega
  have k0 : ¬ ((0 : Int) < k) := by omega
  clear hk0
  have e0 := shl1_32 (s := 1 + m) (by omega)
  clear hm hk ht hkt
  go_enter Try.func6, Try.ntmps6
  go_wp2_with fail
  refine (plic_new _).mono ?_
  rintro e w1 ⟨rfl, rfl⟩
  have H := Lib.hid (PlicHere.new w)
  go_wp2_with fail
  rw [ek, et]
  clear em ek et
  refine (plic_awake _).mono ?_
  rintro e w1 ⟨rfl, hb⟩
  have H1 := Lib.hid (H.out.keep hb); clear hb H
  go_wp2_with fail
  refine (here_write H1.out _ _ _ (by omega) (by omega)).mono ?_
  rintro e w2 ⟨rfl, hh⟩
  rw [Int.toNat_natCast] at hh ⊢
  rw [Q1.out]
  have H2 : Hid (PlicHere w _ (thA m k) w2) := hh
  clear hh H1 Q1
  go_wp2_with fail
  refine (here_write H2.out _ _ _ (by omega) (by omega)).mono ?_
  rintro e w3 ⟨rfl, hh⟩
  rw [show ((thA m k).write 8320 4 (254 : Int).toNat).1 = 0 from Q2.out]
  have H3 : Hid (PlicHere w _ (thB m k 8320) w3) := hh
  clear hh H2 Q2
  go_wp2_with fail
  refine (here_write H3.out _ _ _ (by omega) (by omega)).mono ?_
  rintro e w4 ⟨rfl, hh⟩
  rw [Int.toNat_natCast] at hh ⊢
  rw [Q3.out]
  have H4 : Hid (PlicHere w _ (thD m k t 8320 2101248) w4) := hh
  clear hh H3 Q3
  go_wp2_with fail
  refine (here_tick H4.out _ (by omega) (Int.ofNat_lt.2 (pow2_lt (s := 1 + m) (by have := HM.out; omega)))).mono ?_
  rintro e w5 ⟨rfl, hh⟩
  rw [Int.toNat_natCast] at hh
  have H5 : Hid (PlicHere w _ (thE m k t 8320 2101248) w5) := hh
  clear hh H4
  go_wp2_with fail
  refine (here_lines H5.out).mono ?_
  rintro e w6 ⟨rfl, hh⟩
  rw [Q4.out]
  have H6 := Lib.hid hh
  clear hh H5
  go_wp2_with fail
  refine (here_lines H6.out).mono ?_
  rintro e w7 ⟨rfl, hh⟩
  rw [Q4.out]
  have H7 := Lib.hid hh
  clear hh H6
  have H8 := H7; clear H7
  go_wp2_with fail
  refine (here_read H8.out _ _).mono ?_
  rintro e w9 ⟨rfl, hh⟩
  rw [Q5.out, Q6.out]
  have H9 := Lib.hid hh
  clear hh H8
  go_wp2_with fail
  refine (here_lines H9.out).mono ?_
  rintro e w10 ⟨rfl, hh⟩
  rw [Q7.out]
  have H10 := Lib.hid hh
  clear hh H9
  go_wp2_with fail
  go_ret
  exact ⟨rfl, H10.out.below⟩
theorem plic_threshold_walk (a0 : Int) (w0 : (Lit.int .i64 a0).wf = true) (a1 : Int) (w1 : (Lit.int .i64 a1).wf = true) (a2 : Int) (w2 : (Lit.int .i64 a2).wf = true) (a3 : Bool) (w : World) :
    Calls Try.prog 6 #[.int .i64 a0, .int .i64 a1, .int .i64 a2, .bool a3] w fun e w' => e = .returned (.bool true) ∧ Below w.heap.size w w' := by
  obtain ⟨k, hk, ek⟩ := mod_u a0 8 (by omega) (by omega)
  obtain ⟨t, ht, et⟩ := mod_u a1 8 (by omega) (by omega)
  obtain ⟨m, hm, em⟩ := mod_u a2 7 (by omega) (by omega)
  have hk : k < 8 := by omega
  have ht : t < 8 := by omega
  have hm : m < 7 := by omega
  cases a3 <;> by_cases hkt : t < k
  · exact thr_0gt a0 a1 a2 m k t hm hk ht em ek et hkt w
  · by_cases hk0 : 0 < k
    · exact thr_0le a0 a1 a2 m k t hm hk ht em ek et hkt hk0 w
    · exact thr_0z a0 a1 a2 m k t hm hk ht em ek et hkt hk0 w
  · exact thr_1gt a0 a1 a2 m k t hm hk ht em ek et hkt w
  · by_cases hk0 : 0 < k
    · exact thr_1le a0 a1 a2 m k t hm hk ht em ek et hkt hk0 w
    · exact thr_1z a0 a1 a2 m k t hm hk ht em ek et hkt hk0 w
end Go.Proofs.Ytebdbbpefmgooaa
