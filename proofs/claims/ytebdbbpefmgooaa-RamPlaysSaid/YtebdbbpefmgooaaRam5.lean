/- Contracts of ram.New, Write, Word, Put. No condition. -/
import Derived.Test.YtebdbbpefmgooaaRam4
import Derived.Deep.OwnRows
import Derived.StillTailTactics
import Derived.BigRegion
import Derived.Deep.RegionWith
import Derived.Deep.RegionHeld3
import Derived.Deep.QuietTactic
import Derived.BigQuiet
import Derived.Deep.LoopGhost
import Derived.Deep.DeepCutAuto
import Derived.Deep.DeepFit
import Derived.Deep.DeepMust
import Derived.Handy
set_option linter.unusedVariables false
set_option linter.unusedSimpArgs false
namespace Go.Proofs.Ytebdbbpefmgooaa
open Go.RowKit
set_option maxRecDepth 100000 in
set_option maxHeartbeats 4000000 in
theorem ram_write_ok {w : World} {b n : Nat} {ct : Nat → Nat} {S : Nat → Prop} (h : RamAt w b n ct S) (x : Int) (x0 : 0 ≤ x) (x1 : x < 18446744073709551616) (a : Option Addr) (m c : Nat) (ha : ramAll n x m = true)
    (l : List Int) (hl : IsB w a m l) (al : Apart S a) :
    Calls Try.prog 42 #[.pointer (some ⟨b, 0, none⟩), .int .u64 x, .slice a m c] w fun e w' => e = .returned (.int .i64 0) ∧ RamTo w w' b n (putTo ct (x - 2147483648).toNat (fun i => (l.getD i 0).toNat) (fun _ => true) m) S := by
  have hlo := h.lo
  have hk : (m : Int) ≤ 1048576 := by
    simp only [ramAll, isRam, Bool.or_eq_true, Bool.and_eq_true, decide_eq_true_eq] at ha
    omega
  have HK := Lib.hid (show ∀ i, i < m → stAt m (fun _ => true) i = (fun _ => true) i from fun i hi => by simp [stAt, hi])
  have H := Lib.hid h
  have HA := Lib.hid ha
  have HL := Lib.hid hl
  have HAL := Lib.hid al
  have HLT := Lib.hid (fun g (hg : S g) => h.lt hg)
  clear h ha hl al hlo
  have hmk : ∀ wq, (Instr.makeSlice 82 (.int .i64 (m : Int)) (.int .i64 (m : Int))).run Try.prog wq = .ok (.slice (some ⟨wq.heap.size, 0, none⟩) m m) (wq.alloc (.cells (madeCells #[.bool false] m) 4)) := fun wq => run_make_row' (P := Try.prog) 82 4 (.bool false) 1 Try.underlying82 A_info4 rfl .i64 .i64 m (by omega) (by omega) wq
  go_enter Try.func42, Try.ntmps42
  go_wp2_with fail
  clear hmk
  go_loopw [14] (fun i wr => ∃ k : Nat, (k : Int) ≤ m ∧ i = .int .i64 k ∧ wr.rowIs w.heap.size 4 m (fun j => .bool (decide (j < k))) ∧ Below w.heap.size w wr) (fun i _ => m - (intOf i).toNat)
  case atStart => exact ⟨0, by omega, rfl, (World.rowIs_made w (.bool false) m 4).congr (fun i _ => by simp), (Below.refl _ _).alloc (Nat.le_refl _) _⟩
  case round =>
    obtain ⟨k, hk2, rfl, hr, hb⟩ := hrel
    have HB := Lib.hid hb
    clear hb
    by_cases hlt : (k : Int) < m
    · have hc := hr.cell (i := k) (by omega)
      have hf := hr.frozen k
      simp only [Nat.lt_irrefl, decide_false] at hc
      have HS : Hid ((wr.setCell ⟨w.heap.size, k, none⟩ (.bool true)).rowIs w.heap.size 4 m (fun j => .bool (decide (j < k + 1)))) := (hr.set k (.bool true)).congr fun i _ => by
        by_cases hi : i = k
        · subst hi; simp
        · rw [if_neg hi]
          have : (i < k) ↔ (i < k + 1) := by omega
          simp only [this]
      clear hr hk2
      go_wp2_with fail
      exact ⟨⟨k + 1, by omega, by rw [Int.natCast_succ], HS.out, HB.out.setCell (Nat.le_refl _) _⟩, by simp [intOf]; omega⟩
    · obtain rfl : k = m := by omega
      have HR := Lib.hid hr
      have HAT := Lib.hid (H.out.below HB.out)
      have HL2 := Lib.hid (isB_turned HL.out (Turned.of_below HB.out S) HAL.out)
      have HRW : Hid (IsRow wr (some ⟨w.heap.size, 0, none⟩) k (fun i => .bool ((fun _ => true) i))) := by
        intro _
        refine ⟨w.heap.size, 0, rfl, HR.out.lt, fun i hi => ?_⟩
        rw [Nat.zero_add, HR.out.cell hi]
        simp [hi]
      have HAP : Hid (Apart S (some ⟨w.heap.size, 0, none⟩)) := by
        rintro b' o s he hS
        injection he with he
        injection he with he
        have := HLT.out b' hS
        omega
      clear hr hk2 HR
      go_wp2_with fail
      refine (ram_some_ok HAT.out x x0 x1 a _ k c k k HA.out l HL2.out HAL.out (fun _ => true) HRW.out HAP.out (by omega)).mono ?_
      rintro e w2 ⟨rfl, hh⟩
      have HF := Lib.hid (hh.from_below HB.out)
      clear hh
      go_wp2_with fail
      go_ret
      refine ⟨rfl, ?_⟩
      have e1 : putTo ct (x - 2147483648).toNat (fun i => (l.getD i 0).toNat) (fun _ => true) k = putTo ct (x - 2147483648).toNat (fun i => (l.getD i 0).toNat) (stAt k fun _ => true) k := by
        funext i
        rw [putTo_at, putTo_at]
        by_cases hi : (x - 2147483648).toNat ≤ i ∧ i < (x - 2147483648).toNat + k
        · rw [HK.out _ (by omega)]
        · rw [if_neg (fun h => hi ⟨h.1, h.2.1⟩), if_neg (fun h => hi ⟨h.1, h.2.1⟩)]
      rw [e1]
      exact HF.out
set_option maxRecDepth 100000 in
set_option maxHeartbeats 4000000 in
theorem ram_write_nil  (x : Int) (a : Option Addr) (m c : Nat) (hm : (m : Int) ≤ 140737488355328) (w : World) :
    Calls Try.prog 42 #[.pointer none, .int .u64 x, .slice a m c] w (ErrNo w 2) := by
  skip
  have hmk : ∀ wq, (Instr.makeSlice 82 (.int .i64 (m : Int)) (.int .i64 (m : Int))).run Try.prog wq = .ok (.slice (some ⟨wq.heap.size, 0, none⟩) m m) (wq.alloc (.cells (madeCells #[.bool false] m) 4)) := fun wq => run_make_row' (P := Try.prog) 82 4 (.bool false) 1 Try.underlying82 A_info4 rfl .i64 .i64 m (by omega) (by omega) wq
  go_enter Try.func42, Try.ntmps42
  go_wp2_with fail
  clear hmk
  go_loopw [14] (fun i wr => ∃ k : Nat, (k : Int) ≤ m ∧ i = .int .i64 k ∧ wr.rowIs w.heap.size 4 m (fun j => .bool (decide (j < k))) ∧ Below w.heap.size w wr) (fun i _ => m - (intOf i).toNat)
  case atStart => exact ⟨0, by omega, rfl, (World.rowIs_made w (.bool false) m 4).congr (fun i _ => by simp), (Below.refl _ _).alloc (Nat.le_refl _) _⟩
  case round =>
    obtain ⟨k, hk2, rfl, hr, hb⟩ := hrel
    have HB := Lib.hid hb
    clear hb
    by_cases hlt : (k : Int) < m
    · have hc := hr.cell (i := k) (by omega)
      have hf := hr.frozen k
      simp only [Nat.lt_irrefl, decide_false] at hc
      have HS : Hid ((wr.setCell ⟨w.heap.size, k, none⟩ (.bool true)).rowIs w.heap.size 4 m (fun j => .bool (decide (j < k + 1)))) := (hr.set k (.bool true)).congr fun i _ => by
        by_cases hi : i = k
        · subst hi; simp
        · rw [if_neg hi]
          have : (i < k) ↔ (i < k + 1) := by omega
          simp only [this]
      clear hr hk2
      go_wp2_with fail
      exact ⟨⟨k + 1, by omega, by rw [Int.natCast_succ], HS.out, HB.out.setCell (Nat.le_refl _) _⟩, by simp [intOf]; omega⟩
    · obtain rfl : k = m := by omega
      skip
      clear hr hk2
      go_wp2_with fail
      refine (ram_some_nil x a _ k c k k _).mono ?_
      rintro e w2 ⟨rfl, hh⟩
      have HF : Hid (Below w.heap.size w w2) := below_then HB.out hh HB.out.size
      clear hh
      go_wp2_with fail
      go_ret
      exact ⟨rfl, HF.out⟩
set_option maxRecDepth 100000 in
set_option maxHeartbeats 4000000 in
theorem ram_write_bus {w : World} {b n : Nat} {ct : Nat → Nat} {S : Nat → Prop} (h : RamAt w b n ct S) (x : Int) (x0 : 0 ≤ x) (x1 : x < 18446744073709551616) (a : Option Addr) (m c : Nat) (hm : (m : Int) ≤ 140737488355328) (ha : ramAll n x m = false) :
    Calls Try.prog 42 #[.pointer (some ⟨b, 0, none⟩), .int .u64 x, .slice a m c] w (ErrNo w 6) := by
  have H := Lib.hid h
  have HA := Lib.hid ha
  clear h ha
  have hmk : ∀ wq, (Instr.makeSlice 82 (.int .i64 (m : Int)) (.int .i64 (m : Int))).run Try.prog wq = .ok (.slice (some ⟨wq.heap.size, 0, none⟩) m m) (wq.alloc (.cells (madeCells #[.bool false] m) 4)) := fun wq => run_make_row' (P := Try.prog) 82 4 (.bool false) 1 Try.underlying82 A_info4 rfl .i64 .i64 m (by omega) (by omega) wq
  go_enter Try.func42, Try.ntmps42
  go_wp2_with fail
  clear hmk
  go_loopw [14] (fun i wr => ∃ k : Nat, (k : Int) ≤ m ∧ i = .int .i64 k ∧ wr.rowIs w.heap.size 4 m (fun j => .bool (decide (j < k))) ∧ Below w.heap.size w wr) (fun i _ => m - (intOf i).toNat)
  case atStart => exact ⟨0, by omega, rfl, (World.rowIs_made w (.bool false) m 4).congr (fun i _ => by simp), (Below.refl _ _).alloc (Nat.le_refl _) _⟩
  case round =>
    obtain ⟨k, hk2, rfl, hr, hb⟩ := hrel
    have HB := Lib.hid hb
    clear hb
    by_cases hlt : (k : Int) < m
    · have hc := hr.cell (i := k) (by omega)
      have hf := hr.frozen k
      simp only [Nat.lt_irrefl, decide_false] at hc
      have HS : Hid ((wr.setCell ⟨w.heap.size, k, none⟩ (.bool true)).rowIs w.heap.size 4 m (fun j => .bool (decide (j < k + 1)))) := (hr.set k (.bool true)).congr fun i _ => by
        by_cases hi : i = k
        · subst hi; simp
        · rw [if_neg hi]
          have : (i < k) ↔ (i < k + 1) := by omega
          simp only [this]
      clear hr hk2
      go_wp2_with fail
      exact ⟨⟨k + 1, by omega, by rw [Int.natCast_succ], HS.out, HB.out.setCell (Nat.le_refl _) _⟩, by simp [intOf]; omega⟩
    · obtain rfl : k = m := by omega
      have HAT := Lib.hid (H.out.below HB.out)
      clear hr hk2
      go_wp2_with fail
      refine (ram_some_bus HAT.out x x0 x1 a _ k c k k (by omega) HA.out).mono ?_
      rintro e w2 ⟨rfl, hh⟩
      have HF : Hid (Below w.heap.size w w2) := below_then HB.out hh HB.out.size
      clear hh
      go_wp2_with fail
      go_ret
      exact ⟨rfl, HF.out⟩
/-- why there is no such word: 0 if there is -/
def mayErr (n : Nat) (x : Int) (k : Int) : Int :=
  if k = 1 ∨ k = 2 ∨ k = 4 ∨ k = 8 then (if x % k = 0 then (if ramAll n x k then 0 else 6) else 5) else 1
set_option maxRecDepth 100000 in
set_option maxHeartbeats 1000000 in
theorem ram_may_nil (x k : Int) (w : World) : Calls Try.prog 62 #[.pointer none, .int .u64 x, .int .i64 k] w (ErrNo w 2) := by
  have hB := Lib.hid (Below.refl w.heap.size w)
  go_enter Try.func62, Try.ntmps62
  go_wp2
  go_ret
  exact ⟨rfl, hB.out⟩
set_option maxRecDepth 100000 in
set_option maxHeartbeats 1000000 in
theorem ram_may_arg (b : Nat) (x k : Int) (h1 : ¬ k = 1) (h2 : ¬ k = 2) (h4 : ¬ k = 4) (h8 : ¬ k = 8) (w : World) : Calls Try.prog 62 #[.pointer (some ⟨b, 0, none⟩), .int .u64 x, .int .i64 k] w (ErrNo w 1) := by
  have hB := Lib.hid (Below.refl w.heap.size w)
  have e1 : (k != 1) = true := by simpa using h1
  have e2 : (k != 2) = true := by simpa using h2
  have e4 : (k != 4) = true := by simpa using h4
  have e8 : (k != 8) = true := by simpa using h8
  clear h1 h2 h4 h8
  go_enter Try.func62, Try.ntmps62
  go_wp2_with fail
  go_ret
  exact ⟨rfl, hB.out⟩
set_option maxRecDepth 100000 in
set_option maxHeartbeats 2000000 in
theorem ram_may_1 {w : World} {b n : Nat} {ct : Nat → Nat} {S : Nat → Prop} (h : RamAt w b n ct S) (x : Int) (x0 : 0 ≤ x) (x1 : x < 18446744073709551616) :
    Calls Try.prog 62 #[.pointer (some ⟨b, 0, none⟩), .int .u64 x, .int .i64 1] w (ErrNo w (mayErr n x 1)) := by
  have HM := Lib.hid (show mayErr n x 1 = if x % 1 = 0 then (if ramAll n x 1 then 0 else 6) else 5 by unfold mayErr; rw [if_pos (by omega)])
  have HAL := Lib.hid (bits_aligned x x0 1 (by omega) (by omega))
  have HA := Lib.hid (fun wq (hq : RamAt wq b n ct S) => ram_all_at hq x x0 x1 1 (by omega) (by omega))
  have H := Lib.hid h
  clear h x0 x1
  generalize hR : ramAll n x 1 = R at *
  by_cases hx : x % 1 = 0
  · rw [if_pos hx] at HM
    rw [show decide (x % (1 : Nat) = 0) = true from decide_eq_true (show x % ((1 : Nat) : Int) = 0 from hx)] at HAL
    have hx := Lib.hid hx
    cases R with
    | true =>
      go_enter Try.func62, Try.ntmps62
      go_wp2_with fail
      refine (HAL.out _).mono ?_
      rintro e w1 ⟨rfl, rfl⟩
      go_wp2_with fail
      refine (HA.out _ H.out).mono ?_
      rintro e w1 ⟨rfl, hb⟩
      have HB := Lib.hid hb
      clear hb
      go_wp2_with fail
      go_ret
      exact ⟨ret_int (by rw [HM.out]; rfl), HB.out⟩
    | false =>
      go_enter Try.func62, Try.ntmps62
      go_wp2_with fail
      refine (HAL.out _).mono ?_
      rintro e w1 ⟨rfl, rfl⟩
      go_wp2_with fail
      refine (HA.out _ H.out).mono ?_
      rintro e w1 ⟨rfl, hb⟩
      have HB := Lib.hid hb
      clear hb
      go_wp2_with fail
      go_ret
      exact ⟨ret_int (by rw [HM.out]; rfl), HB.out⟩
  · rw [if_neg hx] at HM
    rw [show decide (x % (1 : Nat) = 0) = false from decide_eq_false (show ¬ x % ((1 : Nat) : Int) = 0 from hx)] at HAL
    have hx := Lib.hid hx
    have hB := Lib.hid (Below.refl w.heap.size w)
    go_enter Try.func62, Try.ntmps62
    go_wp2_with fail
    refine (HAL.out _).mono ?_
    rintro e w1 ⟨rfl, rfl⟩
    go_wp2_with fail
    go_ret
    exact ⟨ret_int (by rw [HM.out]), hB.out⟩
set_option maxRecDepth 100000 in
set_option maxHeartbeats 2000000 in
theorem ram_may_2 {w : World} {b n : Nat} {ct : Nat → Nat} {S : Nat → Prop} (h : RamAt w b n ct S) (x : Int) (x0 : 0 ≤ x) (x1 : x < 18446744073709551616) :
    Calls Try.prog 62 #[.pointer (some ⟨b, 0, none⟩), .int .u64 x, .int .i64 2] w (ErrNo w (mayErr n x 2)) := by
  have HM := Lib.hid (show mayErr n x 2 = if x % 2 = 0 then (if ramAll n x 2 then 0 else 6) else 5 by unfold mayErr; rw [if_pos (by omega)])
  have HAL := Lib.hid (bits_aligned x x0 2 (by omega) (by omega))
  have HA := Lib.hid (fun wq (hq : RamAt wq b n ct S) => ram_all_at hq x x0 x1 2 (by omega) (by omega))
  have H := Lib.hid h
  clear h x0 x1
  generalize hR : ramAll n x 2 = R at *
  by_cases hx : x % 2 = 0
  · rw [if_pos hx] at HM
    rw [show decide (x % (2 : Nat) = 0) = true from decide_eq_true (show x % ((2 : Nat) : Int) = 0 from hx)] at HAL
    have hx := Lib.hid hx
    cases R with
    | true =>
      go_enter Try.func62, Try.ntmps62
      go_wp2_with fail
      refine (HAL.out _).mono ?_
      rintro e w1 ⟨rfl, rfl⟩
      go_wp2_with fail
      refine (HA.out _ H.out).mono ?_
      rintro e w1 ⟨rfl, hb⟩
      have HB := Lib.hid hb
      clear hb
      go_wp2_with fail
      go_ret
      exact ⟨ret_int (by rw [HM.out]; rfl), HB.out⟩
    | false =>
      go_enter Try.func62, Try.ntmps62
      go_wp2_with fail
      refine (HAL.out _).mono ?_
      rintro e w1 ⟨rfl, rfl⟩
      go_wp2_with fail
      refine (HA.out _ H.out).mono ?_
      rintro e w1 ⟨rfl, hb⟩
      have HB := Lib.hid hb
      clear hb
      go_wp2_with fail
      go_ret
      exact ⟨ret_int (by rw [HM.out]; rfl), HB.out⟩
  · rw [if_neg hx] at HM
    rw [show decide (x % (2 : Nat) = 0) = false from decide_eq_false (show ¬ x % ((2 : Nat) : Int) = 0 from hx)] at HAL
    have hx := Lib.hid hx
    have hB := Lib.hid (Below.refl w.heap.size w)
    go_enter Try.func62, Try.ntmps62
    go_wp2_with fail
    refine (HAL.out _).mono ?_
    rintro e w1 ⟨rfl, rfl⟩
    go_wp2_with fail
    go_ret
    exact ⟨ret_int (by rw [HM.out]), hB.out⟩
set_option maxRecDepth 100000 in
set_option maxHeartbeats 2000000 in
theorem ram_may_4 {w : World} {b n : Nat} {ct : Nat → Nat} {S : Nat → Prop} (h : RamAt w b n ct S) (x : Int) (x0 : 0 ≤ x) (x1 : x < 18446744073709551616) :
    Calls Try.prog 62 #[.pointer (some ⟨b, 0, none⟩), .int .u64 x, .int .i64 4] w (ErrNo w (mayErr n x 4)) := by
  have HM := Lib.hid (show mayErr n x 4 = if x % 4 = 0 then (if ramAll n x 4 then 0 else 6) else 5 by unfold mayErr; rw [if_pos (by omega)])
  have HAL := Lib.hid (bits_aligned x x0 4 (by omega) (by omega))
  have HA := Lib.hid (fun wq (hq : RamAt wq b n ct S) => ram_all_at hq x x0 x1 4 (by omega) (by omega))
  have H := Lib.hid h
  clear h x0 x1
  generalize hR : ramAll n x 4 = R at *
  by_cases hx : x % 4 = 0
  · rw [if_pos hx] at HM
    rw [show decide (x % (4 : Nat) = 0) = true from decide_eq_true (show x % ((4 : Nat) : Int) = 0 from hx)] at HAL
    have hx := Lib.hid hx
    cases R with
    | true =>
      go_enter Try.func62, Try.ntmps62
      go_wp2_with fail
      refine (HAL.out _).mono ?_
      rintro e w1 ⟨rfl, rfl⟩
      go_wp2_with fail
      refine (HA.out _ H.out).mono ?_
      rintro e w1 ⟨rfl, hb⟩
      have HB := Lib.hid hb
      clear hb
      go_wp2_with fail
      go_ret
      exact ⟨ret_int (by rw [HM.out]; rfl), HB.out⟩
    | false =>
      go_enter Try.func62, Try.ntmps62
      go_wp2_with fail
      refine (HAL.out _).mono ?_
      rintro e w1 ⟨rfl, rfl⟩
      go_wp2_with fail
      refine (HA.out _ H.out).mono ?_
      rintro e w1 ⟨rfl, hb⟩
      have HB := Lib.hid hb
      clear hb
      go_wp2_with fail
      go_ret
      exact ⟨ret_int (by rw [HM.out]; rfl), HB.out⟩
  · rw [if_neg hx] at HM
    rw [show decide (x % (4 : Nat) = 0) = false from decide_eq_false (show ¬ x % ((4 : Nat) : Int) = 0 from hx)] at HAL
    have hx := Lib.hid hx
    have hB := Lib.hid (Below.refl w.heap.size w)
    go_enter Try.func62, Try.ntmps62
    go_wp2_with fail
    refine (HAL.out _).mono ?_
    rintro e w1 ⟨rfl, rfl⟩
    go_wp2_with fail
    go_ret
    exact ⟨ret_int (by rw [HM.out]), hB.out⟩
set_option maxRecDepth 100000 in
set_option maxHeartbeats 2000000 in
theorem ram_may_8 {w : World} {b n : Nat} {ct : Nat → Nat} {S : Nat → Prop} (h : RamAt w b n ct S) (x : Int) (x0 : 0 ≤ x) (x1 : x < 18446744073709551616) :
    Calls Try.prog 62 #[.pointer (some ⟨b, 0, none⟩), .int .u64 x, .int .i64 8] w (ErrNo w (mayErr n x 8)) := by
  have HM := Lib.hid (show mayErr n x 8 = if x % 8 = 0 then (if ramAll n x 8 then 0 else 6) else 5 by unfold mayErr; rw [if_pos (by omega)])
  have HAL := Lib.hid (bits_aligned x x0 8 (by omega) (by omega))
  have HA := Lib.hid (fun wq (hq : RamAt wq b n ct S) => ram_all_at hq x x0 x1 8 (by omega) (by omega))
  have H := Lib.hid h
  clear h x0 x1
  generalize hR : ramAll n x 8 = R at *
  by_cases hx : x % 8 = 0
  · rw [if_pos hx] at HM
    rw [show decide (x % (8 : Nat) = 0) = true from decide_eq_true (show x % ((8 : Nat) : Int) = 0 from hx)] at HAL
    have hx := Lib.hid hx
    cases R with
    | true =>
      go_enter Try.func62, Try.ntmps62
      go_wp2_with fail
      refine (HAL.out _).mono ?_
      rintro e w1 ⟨rfl, rfl⟩
      go_wp2_with fail
      refine (HA.out _ H.out).mono ?_
      rintro e w1 ⟨rfl, hb⟩
      have HB := Lib.hid hb
      clear hb
      go_wp2_with fail
      go_ret
      exact ⟨ret_int (by rw [HM.out]; rfl), HB.out⟩
    | false =>
      go_enter Try.func62, Try.ntmps62
      go_wp2_with fail
      refine (HAL.out _).mono ?_
      rintro e w1 ⟨rfl, rfl⟩
      go_wp2_with fail
      refine (HA.out _ H.out).mono ?_
      rintro e w1 ⟨rfl, hb⟩
      have HB := Lib.hid hb
      clear hb
      go_wp2_with fail
      go_ret
      exact ⟨ret_int (by rw [HM.out]; rfl), HB.out⟩
  · rw [if_neg hx] at HM
    rw [show decide (x % (8 : Nat) = 0) = false from decide_eq_false (show ¬ x % ((8 : Nat) : Int) = 0 from hx)] at HAL
    have hx := Lib.hid hx
    have hB := Lib.hid (Below.refl w.heap.size w)
    go_enter Try.func62, Try.ntmps62
    go_wp2_with fail
    refine (HAL.out _).mono ?_
    rintro e w1 ⟨rfl, rfl⟩
    go_wp2_with fail
    go_ret
    exact ⟨ret_int (by rw [HM.out]), hB.out⟩
theorem ram_may {w : World} {b n : Nat} {ct : Nat → Nat} {S : Nat → Prop} (h : RamAt w b n ct S) (x : Int) (x0 : 0 ≤ x) (x1 : x < 18446744073709551616) (k : Int) :
    Calls Try.prog 62 #[.pointer (some ⟨b, 0, none⟩), .int .u64 x, .int .i64 k] w (ErrNo w (mayErr n x k)) := by
  by_cases h1 : k = 1
  · subst h1; exact ram_may_1 h x x0 x1
  by_cases h2 : k = 2
  · subst h2; exact ram_may_2 h x x0 x1
  by_cases h4 : k = 4
  · subst h4; exact ram_may_4 h x x0 x1
  by_cases h8 : k = 8
  · subst h8; exact ram_may_8 h x x0 x1
  have e : mayErr n x k = 1 := by unfold mayErr; rw [if_neg (by omega)]
  rw [e]
  exact ram_may_arg b x k h1 h2 h4 h8 w
end Go.Proofs.Ytebdbbpefmgooaa
