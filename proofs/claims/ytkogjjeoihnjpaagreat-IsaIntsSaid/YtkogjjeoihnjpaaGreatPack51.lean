/- trap.first, the document's Select: which interrupt comes first, said plainly. No condition. Pending, of the program and of the document. No condition. trap.Select told plainly. No condition. -/
import Derived.Test.YtkogjjeoihnjpaaGreatPack40
import Derived.Test.YtkogjjeoihnjpaaGreatPack36
import Derived.StillTailTactics
import Derived.BigRegion
import Derived.Deep.RegionWith
import Derived.Deep.QuietTactic
import Derived.BigQuiet
import Derived.Deep.LoopGhost
import Derived.Deep.DeepCutAuto
import Derived.Deep.DeepMust
import Derived.Handy
import Derived.WalkMore
import Derived.Deep.RegionHeld3
section
set_option linter.unusedVariables false
set_option linter.unusedSimpArgs false
namespace Go.Proofs.YtkogjjeoihnjpaaGreat
open Go.RowKit Sx
set_option maxRecDepth 100000
def ordL : List Nat := [11, 3, 7, 9, 1, 5]
/-- what comes of the first one of which P is true -/
def firstV (P : Nat → Bool) : List Int := match ordL.find? P with
  | some n => [9223372036854775808 + n, 1]
  | none => [0, 0]
def tupV (l : List Int) : Value := .tuple #[.int .u64 (l.getD 0 0), .bool (decide (l.getD 1 0 = 1))]
def ordV : Array Value := #[.int .u64 11, .int .u64 3, .int .u64 7, .int .u64 9, .int .u64 1, .int .u64 5]
theorem bs_ord (w : World) : (Instr.buildSlice 188 6 #[(0, .int .u64 11), (1, .int .u64 3), (2, .int .u64 7), (3, .int .u64 9), (4, .int .u64 1), (5, .int .u64 5)]).run Tryz.prog w = .ok (.slice (some ⟨w.heap.size, 0, none⟩) 6 6) (w.alloc (.cells ordV 27)) := by kernel_rfl
attribute [local go_sem] bs_ord
theorem bit64 (x n : Nat) (hx : x < 18446744073709551616) : bits .and .u64 ((x : Int) / 2 ^ n) 1 = ((x.testBit n).toNat : Int) := by
  have h1 : ((x : Int) / 2 ^ n) = ((x / 2 ^ n : Nat) : Int) := by rw [Int.natCast_ediv]; simp
  have h2 := u64_and_nat (x / 2 ^ n) 1 (Nat.lt_of_le_of_lt (Nat.div_le_self _ _) hx) (by omega)
  rw [show ((1 : Nat) : Int) = 1 from rfl] at h2
  rw [h1, h2, Nat.and_one_is_mod, Nat.toNat_testBit]
theorem bitne64 (x n : Nat) (m : Int) (hm : m = 2 ^ n) (hx : x < 18446744073709551616) : (bits .and .u64 ((x : Int) / m) 1 != 0) = x.testBit n := by
  rw [hm, bit64 x n hx]; cases x.testBit n <;> rfl
theorem biteq64 (x n : Nat) (m : Int) (hm : m = 2 ^ n) (hx : x < 18446744073709551616) : (bits .and .u64 ((x : Int) / m) 1 == 1) = x.testBit n := by
  rw [hm, bit64 x n hx]; cases x.testBit n <;> rfl
theorem biteq64z (x n : Nat) (m : Int) (hm : m = 2 ^ n) (hx : x < 18446744073709551616) : (bits .and .u64 ((x : Int) / m) 1 == 0) = !x.testBit n := by
  rw [hm, bit64 x n hx]; cases x.testBit n <;> rfl
/-- the first one stands at place k -/
theorem firstV_at {P : Nat → Bool} : ∀ (k : Nat), k < 6 → (∀ j, j < k → P (ordL.getD j 0) = false) → P (ordL.getD k 0) = true → firstV P = [9223372036854775808 + ((ordL.getD k 0 : Nat) : Int), 1]
  | 0, _, h, hk => by simp only [ordL, List.getD_cons_zero] at hk; simp [firstV, ordL, List.find?, hk]
  | 1, _, h, hk => by
    have h0 := h 0 (by omega)
    simp only [ordL, List.getD_cons_zero, List.getD_cons_succ] at hk h0
    simp [firstV, ordL, List.find?, hk, h0]
  | 2, _, h, hk => by
    have h0 := h 0 (by omega); have h1 := h 1 (by omega)
    simp only [ordL, List.getD_cons_zero, List.getD_cons_succ] at hk h0 h1
    simp [firstV, ordL, List.find?, hk, h0, h1]
  | 3, _, h, hk => by
    have h0 := h 0 (by omega); have h1 := h 1 (by omega); have h2 := h 2 (by omega)
    simp only [ordL, List.getD_cons_zero, List.getD_cons_succ] at hk h0 h1 h2
    simp [firstV, ordL, List.find?, hk, h0, h1, h2]
  | 4, _, h, hk => by
    have h0 := h 0 (by omega); have h1 := h 1 (by omega); have h2 := h 2 (by omega); have h3 := h 3 (by omega)
    simp only [ordL, List.getD_cons_zero, List.getD_cons_succ] at hk h0 h1 h2 h3
    simp [firstV, ordL, List.find?, hk, h0, h1, h2, h3]
  | 5, _, h, hk => by
    have h0 := h 0 (by omega); have h1 := h 1 (by omega); have h2 := h 2 (by omega); have h3 := h 3 (by omega); have h4 := h 4 (by omega)
    simp only [ordL, List.getD_cons_zero, List.getD_cons_succ] at hk h0 h1 h2 h3 h4
    simp [firstV, ordL, List.find?, hk, h0, h1, h2, h3, h4]
  | k + 6, hk, _, _ => by omega
theorem firstV_none {P : Nat → Bool} (h : ∀ j, j < 6 → P (ordL.getD j 0) = false) : firstV P = [0, 0] := by
  have h0 := h 0 (by omega); have h1 := h 1 (by omega); have h2 := h 2 (by omega); have h3 := h 3 (by omega); have h4 := h 4 (by omega); have h5 := h 5 (by omega)
  simp only [ordL, List.getD_cons_zero, List.getD_cons_succ] at h0 h1 h2 h3 h4 h5
  simp [firstV, ordL, List.find?, h0, h1, h2, h3, h4, h5]
theorem firstV_congr {P Q : Nat → Bool} (hl : ordL.all (· < 64) = true) (h : ∀ n, n < 64 → P n = Q n) : firstV P = firstV Q := by
  have e : ordL.find? P = ordL.find? Q := by
    have : ∀ l : List Nat, l.all (· < 64) = true → l.find? P = l.find? Q := fun l => by
      induction l with
      | nil => intro _; rfl
      | cons a l ih =>
        intro hl
        simp only [List.all_cons, Bool.and_eq_true, decide_eq_true_eq] at hl
        rw [List.find?_cons, List.find?_cons, h a hl.1, ih hl.2]
    exact this _ hl
  unfold firstV; rw [e]
theorem no_succ {P : Nat → Bool} {k : Nat} (h : ∀ j, j < k → P (ordL.getD j 0) = false) (hk : P (ordL.getD k 0) = false) : ∀ j, j < k + 1 → P (ordL.getD j 0) = false := fun j hj => by
  rcases Nat.lt_or_ge j k with h1 | h1
  · exact h j h1
  · obtain rfl : j = k := by omega
    exact hk
theorem or63 : bits .or .u64 9223372036854775808 11 = 9223372036854775819 ∧ bits .or .u64 9223372036854775808 3 = 9223372036854775811 ∧ bits .or .u64 9223372036854775808 7 = 9223372036854775815 ∧ bits .or .u64 9223372036854775808 9 = 9223372036854775817 ∧ bits .or .u64 9223372036854775808 1 = 9223372036854775809 ∧ bits .or .u64 9223372036854775808 5 = 9223372036854775813 := by decide +kernel
set_option maxHeartbeats 4000000 in
theorem first_ok (s : Nat) (hs : s < 18446744073709551616) (w : World) : Calls Tryz.prog 82 #[.int .u64 (s : Nat)] w (Gives (tupV (firstV s.testBit)) w) := by
  go_enter Tryz.func82, Tryz.ntmps82
  go_wp2_with fail
  go_step3
  go_wp2_with fail
  go_step3
  go_upto_region 3 with fail
  have hb : (w.alloc (.cells #[.int .u64 11, .int .u64 3, .int .u64 7, .int .u64 9, .int .u64 1, .int .u64 5] 27)).heap[w.heap.size]? = some (.cells #[.int .u64 11, .int .u64 3, .int .u64 7, .int .u64 9, .int .u64 1, .int .u64 5] 27 (0, 0)) := blk_alloc w _
  have hbel : Below w.heap.size w (w.alloc (.cells #[.int .u64 11, .int .u64 3, .int .u64 7, .int .u64 9, .int .u64 1, .int .u64 5] 27)) := (Below.refl _ w).alloc (Nat.le_refl _) _
  generalize w.alloc (.cells #[.int .u64 11, .int .u64 3, .int .u64 7, .int .u64 9, .int .u64 1, .int .u64 5] 27) = w1 at *
  obtain ⟨g, hg⟩ : ∃ g, g = w.heap.size := ⟨_, rfl⟩
  rw [← hg] at hb ⊢
  clear hg
  have r0 := blk_cell hb 0
  have r1 := blk_cell hb 1
  have r2 := blk_cell hb 2
  have r3 := blk_cell hb 3
  have r4 := blk_cell hb 4
  have r5 := blk_cell hb 5
  simp only [List.getElem?_toArray, List.getElem?_cons_zero, List.getElem?_cons_succ] at r0 r1 r2 r3 r4 r5
  have HBEL := Lib.hid hbel
  have t11 := bitne64 s 11 2048 (by decide) hs
  have t3 := bitne64 s 3 8 (by decide) hs
  have t7 := bitne64 s 7 128 (by decide) hs
  have t9 := bitne64 s 9 512 (by decide) hs
  have t1 := bitne64 s 1 2 (by decide) hs
  have t5 := bitne64 s 5 32 (by decide) hs
  obtain ⟨o11, o3, o7, o9, o1, o5⟩ := or63
  clear hb hbel
  go_loopw [4, 5, 10] (fun f b i wr => ∃ k : Nat, k ≤ 6 ∧ i = .int .i64 k ∧ (∀ j, j < k → s.testBit (ordL.getD j 0) = false) ∧ f = .int .u64 0 ∧ b = .bool false ∧ wr = w1) (fun _ _ i _ => 6 - (intOf i).toNat)
  case atStart => exact ⟨0, by omega, rfl, fun j hj => by omega, rfl, rfl, rfl⟩
  case round =>
    obtain ⟨k, hk, rfl, hno, rfl, rfl, rfl⟩ := hrel
    have HNO := Lib.hid hno
    clear hno
    obtain rfl | rfl | rfl | rfl | rfl | rfl | rfl : k = 0 ∨ k = 1 ∨ k = 2 ∨ k = 3 ∨ k = 4 ∨ k = 5 ∨ k = 6 := by omega
    · by_cases hb : s.testBit 11 = true
      · go_wp2_with fail
        rw [Exit.noGoto_ret]
        exact bodyPost_ret (results_tmp2 rfl _ _ _) rfl ⟨by rw [firstV_at 0 (by omega) HNO.out hb]; rfl, HBEL.out⟩
      · have hb := Bool.eq_false_iff.2 hb
        go_wp2_with fail
        exact ⟨⟨1, by omega, rfl, no_succ HNO.out hb, by simp⟩, by decide⟩
    · by_cases hb : s.testBit 3 = true
      · go_wp2_with fail
        rw [Exit.noGoto_ret]
        exact bodyPost_ret (results_tmp2 rfl _ _ _) rfl ⟨by rw [firstV_at 1 (by omega) HNO.out hb]; rfl, HBEL.out⟩
      · have hb := Bool.eq_false_iff.2 hb
        go_wp2_with fail
        exact ⟨⟨2, by omega, rfl, no_succ HNO.out hb, by simp⟩, by decide⟩
    · by_cases hb : s.testBit 7 = true
      · go_wp2_with fail
        rw [Exit.noGoto_ret]
        exact bodyPost_ret (results_tmp2 rfl _ _ _) rfl ⟨by rw [firstV_at 2 (by omega) HNO.out hb]; rfl, HBEL.out⟩
      · have hb := Bool.eq_false_iff.2 hb
        go_wp2_with fail
        exact ⟨⟨3, by omega, rfl, no_succ HNO.out hb, by simp⟩, by decide⟩
    · by_cases hb : s.testBit 9 = true
      · go_wp2_with fail
        rw [Exit.noGoto_ret]
        exact bodyPost_ret (results_tmp2 rfl _ _ _) rfl ⟨by rw [firstV_at 3 (by omega) HNO.out hb]; rfl, HBEL.out⟩
      · have hb := Bool.eq_false_iff.2 hb
        go_wp2_with fail
        exact ⟨⟨4, by omega, rfl, no_succ HNO.out hb, by simp⟩, by decide⟩
    · by_cases hb : s.testBit 1 = true
      · go_wp2_with fail
        rw [Exit.noGoto_ret]
        exact bodyPost_ret (results_tmp2 rfl _ _ _) rfl ⟨by rw [firstV_at 4 (by omega) HNO.out hb]; rfl, HBEL.out⟩
      · have hb := Bool.eq_false_iff.2 hb
        go_wp2_with fail
        exact ⟨⟨5, by omega, rfl, no_succ HNO.out hb, by simp⟩, by decide⟩
    · by_cases hb : s.testBit 5 = true
      · go_wp2_with fail
        rw [Exit.noGoto_ret]
        exact bodyPost_ret (results_tmp2 rfl _ _ _) rfl ⟨by rw [firstV_at 5 (by omega) HNO.out hb]; rfl, HBEL.out⟩
      · have hb := Bool.eq_false_iff.2 hb
        go_wp2_with fail
        exact ⟨⟨6, by omega, rfl, no_succ HNO.out hb, by simp⟩, by decide⟩
    · go_wp2_with fail
      rw [Exit.noGoto_ret]
      exact bodyPost_ret (results_tmp2 rfl _ _ _) rfl ⟨by rw [firstV_none HNO.out]; rfl, HBEL.out⟩
end Go.Proofs.YtkogjjeoihnjpaaGreat
end
section
set_option linter.unusedVariables false
set_option linter.unusedSimpArgs false
namespace Go.Proofs.YtkogjjeoihnjpaaGreat
open Go.RowKit Sx
set_option maxRecDepth 100000
def tlN : Nat → List Int → List Int
  | 0, l => l
  | n + 1, l => tlN n l.tail
theorem tlN_get : ∀ (n j : Nat) (l : List Int), (tlN n l).getD j 0 = l.getD (n + j) 0
  | 0, j, l => by rw [Nat.zero_add]; rfl
  | n + 1, j, l => by
    show (tlN n l.tail).getD j 0 = _
    rw [tlN_get n j l.tail]
    cases l with
    | nil => simp
    | cons a l => rw [show n + 1 + j = (n + j) + 1 by omega]; simp [List.getD]
/-- a hart's control registers -/
def csrA (h : List Int) : Array Value := (cksV csrC (tlN 34 h)).toArray
def envB (ev : List Int) : Array Value := (cksV envC ev).toArray
theorem csrC_get (j : Nat) (h : j < 30) : csrC[j]? = some cu := by
  have : (List.range 30).all (fun j => decide (csrC[j]? = some cu)) = true := by kernel_rfl
  exact of_decide_eq_true (List.all_eq_true.1 this j (List.mem_range.2 h))
theorem csr_cell {w : World} {g : Nat} {h : List Int} {T : TypeId} (hg : w.heap[g]? = some (.cells (csrA h) T (0, 0))) {j : Nat} (hj : j < 30) : w.cell? ⟨g, j, none⟩ = some (.int .u64 (h.getD (34 + j) 0)) := by
  rw [blk_cell hg j]
  simp only [csrA, List.getElem?_toArray]
  rw [cksV_get csrC _ j cu (csrC_get j hj), tlN_get]; rfl
theorem envB_cell {w : World} {g : Nat} {ev : List Int} {T : TypeId} (hg : w.heap[g]? = some (.cells (envB ev) T (0, 0))) : w.cell? ⟨g, 2, none⟩ = some (.int .u64 (ev.getD 2 0)) := by
  rw [blk_cell hg 2]
  simp only [envB, List.getElem?_toArray]
  rw [cksV_get envC _ 2 cu rfl]; rfl
def pendV (h ev : List Int) : Int := bits .or .u64 (h.getD 38 0) (bits .and .u64 (ev.getD 2 0) 2696)
theorem csrA_get (h : List Int) {j : Nat} (hj : j < 30) : (csrA h)[j]? = some (.int .u64 (h.getD (34 + j) 0)) := by
  simp only [csrA, List.getElem?_toArray]
  rw [cksV_get csrC _ j cu (csrC_get j hj), tlN_get]; rfl
theorem envB_get2 (ev : List Int) : (envB ev)[2]? = some (.int .u64 (ev.getD 2 0)) := by
  simp only [envB, List.getElem?_toArray]
  rw [cksV_get envC _ 2 cu rfl]; rfl
set_option maxHeartbeats 4000000 in
theorem pend_ok (h ev : List Int) (w : World) : Calls Tryz.prog 81 #[.agg (csrA h), .agg (envB ev)] w (Gives (.int .u64 (pendV h ev)) w) := by
  have c4 := csrA_get h (j := 4) (by omega)
  have e2 := envB_get2 ev
  go_enter Tryz.func81, Tryz.ntmps81
  go_wp2_with fail
  go_ret
  exact ⟨rfl, ((Below.refl _ w).alloc (Nat.le_refl _) _).alloc (by simp) _⟩
set_option maxHeartbeats 4000000 in
theorem rpend_ok (h ev : List Int) (w : World) : Calls Tryz.prog 49 #[.agg (csrA h), .agg (envB ev)] w (Gives (.int .u64 (pendV h ev)) w) := by
  have c4 := csrA_get h (j := 4) (by omega)
  have e2 := envB_get2 ev
  go_enter Tryz.func49, Tryz.ntmps49
  go_wp2_with fail
  go_ret
  exact ⟨rfl, ((Below.refl _ w).alloc (Nat.le_refl _) _).alloc (by simp) _⟩
/-! ### the program's Select -/
theorem ld_csrs (x : Value) : Instr.loadAt 41 x = loadS 41 x := rfl
def loadC (x : Value) : Sem Value := Instr.loadAt 41 x
theorem ld_csr (x : Value) : Instr.loadAt 41 x = loadC x := rfl
theorem hart_csr (h : List Int) (j : Nat) (v : Value) (hv : (cksV csrC (tlN 34 h))[j]? = some v) : (hartA h)[34 + j]? = some v := by
  have hj : j < 30 := by
    have := (List.getElem?_eq_some_iff.1 hv).1
    rw [cksV_len] at this; exact this
  rw [cksV_get csrC _ j cu (csrC_get j hj), tlN_get] at hv
  rw [← hv]
  have hc : hartC[34 + j]? = some cu := by
    have : (List.range 30).all (fun j => decide (hartC[34 + j]? = some cu)) = true := by kernel_rfl
    exact of_decide_eq_true (List.all_eq_true.1 this j (List.mem_range.2 hj))
  rw [hartA_get h (34 + j) cu hc]
theorem rl_csr {w : World} {g : Nat} {h : List Int} {T : TypeId} (hg : w.heap[g]? = some (.cells (hartA h) T (0, 0))) : (loadC (.pointer (some ⟨g, 34, none⟩))).run Tryz.prog w = .ok (.agg (csrA h)) w :=
  run_loadAt_mid (P := Tryz.prog) w g 34 41 (cksV csrC (tlN 34 h)) _ (fun j v hv => by rw [blk_cell hg]; exact hart_csr h j v hv) Tryz.underlying41 rfl (by rw [cksV_len]; kernel_rfl)
attribute [local go_sem ↓] ld_csr ld_env
/-- what comes of Select: on is what is pending and set, D what is delegated -/
def selV (on D : Nat) (e1 e2 : Bool) : List Int :=
  if e1 = true ∧ (firstV fun n => on.testBit n && !D.testBit n).getD 1 0 = 1 then firstV fun n => on.testBit n && !D.testBit n
  else if e2 = true then firstV fun n => on.testBit n && D.testBit n else [0, 0]
def onN (h ev : List Int) : Nat := (bits .and .u64 (pendV h ev) (h.getD 37 0)).toNat
def en1 (h : List Int) : Bool := decide (h.getD 1 0 ≠ 3) || decide (bits .and .u64 (h.getD 34 0) 8 ≠ 0)
def en2 (h : List Int) : Bool := decide (h.getD 1 0 = 0) || (decide (h.getD 1 0 = 1) && decide (bits .and .u64 (h.getD 34 0) 2 ≠ 0))
def selP (h ev : List Int) : List Int := selV (onN h ev) (h.getD 36 0).toNat (en1 h) (en2 h)
theorem hart_at {h : List Int} {w : World} {g : Nat} {T : TypeId} (hg : w.heap[g]? = some (.cells (hartA h) T (0, 0))) : w.cell? ⟨g, 1, none⟩ = some (.int .i64 (h.getD 1 0)) ∧ w.cell? ⟨g, 34, none⟩ = some (.int .u64 (h.getD 34 0)) ∧ w.cell? ⟨g, 36, none⟩ = some (.int .u64 (h.getD 36 0)) ∧ w.cell? ⟨g, 37, none⟩ = some (.int .u64 (h.getD 37 0)) := by
  have h1 := hartA_get h 1 ci rfl
  have h34 := hartA_get h 34 cu rfl
  have h36 := hartA_get h 36 cu rfl
  have h37 := hartA_get h 37 cu rfl
  refine ⟨?_, ?_, ?_, ?_⟩ <;> rw [blk_cell hg] <;> assumption
theorem rl_envB {w : World} {g : Nat} {ev : List Int} {T : TypeId} (hg : w.heap[g]? = some (.cells (envB ev) T (0, 0))) : (loadE (.pointer (some ⟨g, 0, none⟩))).run Tryz.prog w = .ok (.agg (envB ev)) w :=
  rl_env (ev := ev) (b := g) (o := 0) fun j v hv => by rw [Nat.zero_add, blk_cell hg]; simpa [envB] using hv
/-- a number of 64 bits -/
theorem u64_nat {x : Int} (h : 0 ≤ x ∧ x ≤ 18446744073709551615) : ∃ n : Nat, x = n ∧ n < 18446744073709551616 := ⟨x.toNat, by omega, by omega⟩
end Go.Proofs.YtkogjjeoihnjpaaGreat
end
section
set_option linter.unusedVariables false
set_option linter.unusedSimpArgs false
namespace Go.Proofs.YtkogjjeoihnjpaaGreat
open Go.RowKit Sx
set_option maxRecDepth 100000
attribute [local go_sem ↓] ld_csr ld_env
theorem bits_rng (op : BinOp) (x y : Int) (hop : op = .and ∨ op = .or ∨ op = .xor ∨ op = .andNot) : 0 ≤ bits op .u64 x y ∧ bits op .u64 x y ≤ 18446744073709551615 := by
  rcases hop with rfl | rfl | rfl | rfl <;> (have := Sx.wrap_rng .u64; simp only [Sx.kLo, Sx.kHi] at this; exact this _)
set_option maxHeartbeats 8000000 in
theorem sel_ok (h ev : List Int) (hh : InB hartR h) (w : World) : Calls Tryz.prog 38 #[.agg (hartA h), .agg (envB ev)] w (Gives (tupV (selP h ev)) w) := by
  obtain ⟨D, hD, hD64⟩ : ∃ n : Nat, h.getD 36 0 = n ∧ n < 18446744073709551616 := u64_nat (inB_get hh (i := 36) (r := U) rfl)
  obtain ⟨on, hon, hon64⟩ : ∃ n : Nat, bits .and .u64 (pendV h ev) (h.getD 37 0) = n ∧ n < 18446744073709551616 := u64_nat (bits_rng .and _ _ (.inl rfl))
  obtain ⟨ie, hie⟩ : ∃ x, x = h.getD 37 0 := ⟨_, rfl⟩
  obtain ⟨pv, hpv⟩ : ∃ x, x = h.getD 1 0 := ⟨_, rfl⟩
  obtain ⟨st, hst⟩ : ∃ x, x = h.getD 34 0 := ⟨_, rfl⟩
  have HS : Hid (selP h ev = selV on D (decide (pv ≠ 3) || decide (bits .and .u64 st 8 ≠ 0)) (decide (pv = 0) || (decide (pv = 1) && decide (bits .and .u64 st 2 ≠ 0)))) := by
    show _ = _
    unfold selP onN en1 en2
    rw [hon, hD, ← hpv, ← hst]; rfl
  have HC : Hid (∀ (wq : World) (g : Nat), wq.heap[g]? = some (.cells (hartA h) 43 (0, 0)) → wq.cell? ⟨g, 1, none⟩ = some (.int .i64 pv) ∧ wq.cell? ⟨g, 34, none⟩ = some (.int .u64 st) ∧ wq.cell? ⟨g, 36, none⟩ = some (.int .u64 (D : Nat)) ∧ wq.cell? ⟨g, 37, none⟩ = some (.int .u64 ie)) := fun wq g hq => by
    have := hart_at hq
    rw [← hpv, ← hst, hD, ← hie] at this; exact this
  have HP : Hid (∃ pe, pendV h ev = pe ∧ bits .and .u64 pe ie = (on : Nat)) := ⟨_, rfl, by rw [hie]; exact hon⟩
  clear hh hD hon hpv hst hie
  go_enter Tryz.func38, Tryz.ntmps38
  go_wp2_with fail
  have q0 : ((w.alloc (.cells (hartA h) 43)).alloc (.cells (envB ev) 38)).heap[w.heap.size]? = some (.cells (hartA h) 43 (0, 0)) := (blk_alloc_old _ _ _ (by simp)).trans (blk_alloc _ _)
  have q1 : ((w.alloc (.cells (hartA h) 43)).alloc (.cells (envB ev) 38)).heap[w.heap.size + 1]? = some (.cells (envB ev) 38 (0, 0)) := by have := blk_alloc (w.alloc (.cells (hartA h) 43)) (.cells (envB ev) 38); simpa using this
  have hbel : Below w.heap.size w ((w.alloc (.cells (hartA h) 43)).alloc (.cells (envB ev) 38)) := ((Below.refl _ w).alloc (Nat.le_refl _) _).alloc (by simp) _
  generalize (w.alloc (.cells (hartA h) 43)).alloc (.cells (envB ev) 38) = w1 at *
  obtain ⟨g1, hg1⟩ : ∃ g, g = w.heap.size + 1 := ⟨_, rfl⟩
  rw [← hg1] at q1 ⊢
  obtain ⟨g0, hg0⟩ : ∃ g, g = w.heap.size := ⟨_, rfl⟩
  rw [← hg0] at q0 ⊢
  clear hg0 hg1
  have HB := Lib.hid hbel; have Q0 := Lib.hid q0; have Q1 := Lib.hid q1
  clear hbel q0 q1
  refine wp_region_held_drew (S := fun wq => wq.heap[g0]? = some (.cells (hartA h) 43 (0, 0)) ∧ wq.heap[g1]? = some (.cells (envB ev) 38 (0, 0))) (by kernel_rfl) ⟨Q0.out, Q1.out⟩ (fun hH => ?_)
  refine wpAnyH_take (i := 0) (oi := ⟨some 9, _, _, _, _, _⟩) (v := ?_) rfl (by kernel_rfl) (by kernel_rfl) (by kernel_rfl) (fun _ _ _ h => h) (Or.inl ⟨by kernel_rfl, ?_⟩) hH ?_
  rotate_left 1
  · intro wq hq; obtain ⟨r1, r34, r36, r37⟩ := HC.out wq g0 hq.1; have rc := rl_csr hq.1; have re := rl_envB hq.2; clear hq; first | (go_simp; done) | (go_simp; with_reducible rfl)
  simp only [Act.put, List.setIfInBounds_toArray, List.set_cons_zero, List.set_cons_succ]
  refine wpAnyH_take (i := 1) (oi := ⟨some 10, _, _, _, _, _⟩) (v := ?_) rfl (by kernel_rfl) (by kernel_rfl) (by kernel_rfl) (fun _ _ _ h => h) (Or.inl ⟨by kernel_rfl, ?_⟩) hH ?_
  rotate_left 1
  · intro wq hq; obtain ⟨r1, r34, r36, r37⟩ := HC.out wq g0 hq.1; have rc := rl_csr hq.1; have re := rl_envB hq.2; clear hq; first | (go_simp; done) | (go_simp; with_reducible rfl)
  simp only [Act.put, List.setIfInBounds_toArray, List.set_cons_zero, List.set_cons_succ]
  refine wpAnyH_take (i := 2) (oi := ⟨some 11, _, _, _, _, _⟩) (v := ?_) rfl (by kernel_rfl) (by kernel_rfl) (by kernel_rfl) (fun _ _ _ h => h) (Or.inl ⟨by kernel_rfl, ?_⟩) hH ?_
  rotate_left 1
  · intro wq hq; obtain ⟨r1, r34, r36, r37⟩ := HC.out wq g0 hq.1; have rc := rl_csr hq.1; have re := rl_envB hq.2; clear hq; first | (go_simp; done) | (go_simp; with_reducible rfl)
  simp only [Act.put, List.setIfInBounds_toArray, List.set_cons_zero, List.set_cons_succ]
  refine wpAnyH_take (i := 4) (oi := ⟨some 13, _, _, _, _, _⟩) (v := ?_) rfl (by kernel_rfl) (by kernel_rfl) (by kernel_rfl) (fun _ _ _ h => h) (Or.inl ⟨by kernel_rfl, ?_⟩) hH ?_
  rotate_left 1
  · intro wq hq; obtain ⟨r1, r34, r36, r37⟩ := HC.out wq g0 hq.1; have rc := rl_csr hq.1; have re := rl_envB hq.2; clear hq; first | (go_simp; done) | (go_simp; with_reducible rfl)
  simp only [Act.put, List.setIfInBounds_toArray, List.set_cons_zero, List.set_cons_succ]
  refine wpAnyH_take (i := 5) (oi := ⟨some 14, _, _, _, _, _⟩) (v := ?_) rfl (by kernel_rfl) (by kernel_rfl) (by kernel_rfl) (fun _ _ _ h => h) (Or.inl ⟨by kernel_rfl, ?_⟩) hH ?_
  rotate_left 1
  · intro wq hq; obtain ⟨r1, r34, r36, r37⟩ := HC.out wq g0 hq.1; have rc := rl_csr hq.1; have re := rl_envB hq.2; clear hq; first | (go_simp; done) | (go_simp; with_reducible rfl)
  simp only [Act.put, List.setIfInBounds_toArray, List.set_cons_zero, List.set_cons_succ]
  refine wpAnyH_take (i := 6) (oi := ⟨some 15, _, _, _, _, _⟩) (v := ?_) rfl (by kernel_rfl) (by kernel_rfl) (by kernel_rfl) (fun _ _ _ h => h) (Or.inl ⟨by kernel_rfl, ?_⟩) hH ?_
  rotate_left 1
  · intro wq hq; obtain ⟨r1, r34, r36, r37⟩ := HC.out wq g0 hq.1; have rc := rl_csr hq.1; have re := rl_envB hq.2; clear hq; first | (go_simp; done) | (go_simp; with_reducible rfl)
  simp only [Act.put, List.setIfInBounds_toArray, List.set_cons_zero, List.set_cons_succ]
  refine wpAnyH_ready (rs := [3]) (by kernel_rfl) (by simp) (AllReadyH.cons (o := ⟨some 12, _, _, _, _, _⟩) rfl (fun K hK => ?_) AllReadyH.nil)
  go_simp
  refine (pend_ok h ev _).mono ?_
  obtain ⟨pe, hpe, hon⟩ := HP.out
  rw [hpe]
  clear hpe HP
  rintro e w2 ⟨rfl, hb⟩
  have HB2 := Lib.hid (HB.out.trans (((Below.refl _ w1).drew.trans hb).mono HB.out.size))
  have Q02 : Hid (w2.heap[g0]? = some (.cells (hartA h) 43 (0, 0))) := (hb.block _ (blk_lt Q0.out)).trans Q0.out
  have Q12 : Hid (w2.heap[g1]? = some (.cells (envB ev) 38 (0, 0))) := (hb.block _ (blk_lt Q1.out)).trans Q1.out
  clear hb HB Q0 Q1
  go_wp2_with fail
  refine hK.out _ _ ⟨Q02.out, Q12.out⟩ (fun hH => ?_)
  clear hK K
  try simp only [Act.put, List.setIfInBounds_toArray, List.set_cons_zero, List.set_cons_succ]
  refine wpAnyH_take (i := 7) (oi := ⟨some 16, _, _, _, _, _⟩) (v := ?_) rfl (by kernel_rfl) (by kernel_rfl) (by kernel_rfl) (fun _ _ _ h => h) (Or.inl ⟨by kernel_rfl, ?_⟩) hH ?_
  rotate_left 1
  · intro wq hq; obtain ⟨r1, r34, r36, r37⟩ := HC.out wq g0 hq.1; have rc := rl_csr hq.1; have re := rl_envB hq.2; clear hq; first | (go_simp; done) | (go_simp; with_reducible rfl)
  simp only [Act.put, List.setIfInBounds_toArray, List.set_cons_zero, List.set_cons_succ]
  refine wpAnyH_take (i := 8) (oi := ⟨some 6, _, _, _, _, _⟩) (v := ?_) rfl (by kernel_rfl) (by kernel_rfl) (by kernel_rfl) (fun _ _ _ h => h) (Or.inl ⟨by kernel_rfl, ?_⟩) hH ?_
  rotate_left 1
  · intro wq hq; obtain ⟨r1, r34, r36, r37⟩ := HC.out wq g0 hq.1; have rc := rl_csr hq.1; have re := rl_envB hq.2; clear hq; first | (go_simp; done) | (go_simp; with_reducible rfl)
  simp only [Act.put, List.setIfInBounds_toArray, List.set_cons_zero, List.set_cons_succ]
  refine wpAnyH_done (by kernel_rfl) ?_ _
  clear hH
  skip
  obtain ⟨r1, r34, r36, r37⟩ := HC.out w2 g0 Q02.out
  clear hH hon
  have FA := Lib.hid (first_ok (on &&& (18446744073709551615 - D)) (Nat.lt_of_le_of_lt Nat.and_le_left hon64))
  have FB := Lib.hid (first_ok (on &&& D) (Nat.lt_of_le_of_lt Nat.and_le_left hon64))
  have ea : bits .andNot .u64 (on : Int) (D : Int) = ((on &&& (18446744073709551615 - D) : Nat) : Int) := u64_andNot_nat on D hon64 hD64
  have eb : bits .and .u64 (on : Int) (D : Int) = ((on &&& D : Nat) : Int) := u64_and_nat on D hon64 hD64
  have GA : Hid (firstV (on &&& (18446744073709551615 - D)).testBit = firstV fun n => on.testBit n && !D.testBit n) := firstV_congr (by decide) fun n hn => by rw [Nat.testBit_and, show (18446744073709551615 : Nat) - D = 2 ^ 64 - (D + 1) by omega, Nat.testBit_two_pow_sub_succ (by omega)]; simp [hn]
  have GB : Hid (firstV (on &&& D).testBit = firstV fun n => on.testBit n && D.testBit n) := firstV_congr (by decide) fun n hn => by rw [Nat.testBit_and]
  obtain ⟨LA, hLA⟩ : ∃ L, L = firstV fun n => on.testBit n && !D.testBit n := ⟨_, rfl⟩
  obtain ⟨LB, hLB⟩ : ∃ L, L = firstV fun n => on.testBit n && D.testBit n := ⟨_, rfl⟩
  have HSV : Hid (∀ e1 e2, selV on D e1 e2 = if e1 = true ∧ LA.getD 1 0 = 1 then LA else if e2 = true then LB else [0, 0]) := fun e1 e2 => by unfold selV; rw [← hLA, ← hLB]
  rw [← hLA] at GA
  rw [← hLB] at GB
  obtain ⟨l0, hl0⟩ : ∃ x, x = LA.getD 0 0 := ⟨_, rfl⟩
  obtain ⟨l1, hl1⟩ : ∃ x, x = LA.getD 1 0 := ⟨_, rfl⟩
  obtain ⟨m0, hm0⟩ : ∃ x, x = LB.getD 0 0 := ⟨_, rfl⟩
  obtain ⟨m1, hm1⟩ : ∃ x, x = LB.getD 1 0 := ⟨_, rfl⟩
  have HA : Hid (∀ wq : World, Calls Tryz.prog 82 #[.int .u64 ((on &&& (18446744073709551615 - D) : Nat) : Int)] wq (Gives (.tuple #[.int .u64 l0, .bool (decide (l1 = 1))]) wq)) := fun wq => by rw [hl0, hl1, ← GA.out]; exact FA.out wq
  have HB' : Hid (∀ wq : World, Calls Tryz.prog 82 #[.int .u64 ((on &&& D : Nat) : Int)] wq (Gives (.tuple #[.int .u64 m0, .bool (decide (m1 = 1))]) wq)) := fun wq => by rw [hm0, hm1, ← GB.out]; exact FB.out wq
  have ZA : Hid (tupV LA = .tuple #[.int .u64 l0, .bool (decide (l1 = 1))]) := by show _ = _; rw [hl0, hl1]; rfl
  have ZB : Hid (tupV LB = .tuple #[.int .u64 m0, .bool (decide (m1 = 1))]) := by show _ = _; rw [hm0, hm1]; rfl
  rw [← hl1] at HSV
  clear FA FB GA GB hl0 hl1 hm0 hm1 hLA hLB
  clear r1 r34 r36 r37
  obtain ⟨r1, r34, r36, r37⟩ := HC.out w2 g0 Q02.out
  by_cases hp3 : pv = 3
  · subst hp3
    by_cases h8 : bits .and .u64 st 8 = 0
    · have h8' : (bits .and .u64 st 8 != 0) = false := by rw [h8]; rfl
      go_wp2_with fail
      exact bodyPost_ret (results_tmp2 rfl _ _ _) rfl ⟨by rw [HS.out, HSV.out]; simp [h8]; rfl, HB2.out⟩
    · have h8' : (bits .and .u64 st 8 != 0) = true := by simpa using h8
      go_wp2_with fail
      refine (HA.out _).mono ?_
      rintro e w3 ⟨rfl, hb⟩
      have HB3 := Lib.hid (HB2.out.trans (hb.mono HB2.out.size))
      have Q03 : w3.heap[g0]? = some (.cells (hartA h) 43 (0, 0)) := (hb.block _ (blk_lt Q02.out)).trans Q02.out
      obtain ⟨s1, s34, s36, s37⟩ := HC.out w3 g0 Q03
      clear hb Q03
      by_cases hl : l1 = 1
      · have hl' : decide (l1 = 1) = true := decide_eq_true hl
        go_wp2_with fail
        exact bodyPost_ret (results_tmp2 rfl _ _ _) rfl ⟨by rw [HS.out, HSV.out]; simp [h8, hl]; rw [ZA.out]; simp [hl], HB3.out⟩
      · have hl' : decide (l1 = 1) = false := decide_eq_false hl
        go_wp2_with fail
        exact bodyPost_ret (results_tmp2 rfl _ _ _) rfl ⟨by rw [HS.out, HSV.out]; simp [h8, hl]; rfl, HB3.out⟩
  · have hp3' : (pv != 3) = true := by simpa using hp3
    go_wp2_with fail
    refine (HA.out _).mono ?_
    rintro e w3 ⟨rfl, hb⟩
    have HB3 := Lib.hid (HB2.out.trans (hb.mono HB2.out.size))
    have Q03 : w3.heap[g0]? = some (.cells (hartA h) 43 (0, 0)) := (hb.block _ (blk_lt Q02.out)).trans Q02.out
    obtain ⟨s1, s34, s36, s37⟩ := HC.out w3 g0 Q03
    clear hb Q03
    by_cases hl : l1 = 1
    · have hl' : decide (l1 = 1) = true := decide_eq_true hl
      go_wp2_with fail
      exact bodyPost_ret (results_tmp2 rfl _ _ _) rfl ⟨by rw [HS.out, HSV.out]; simp [hp3, hl]; rw [ZA.out]; simp [hl], HB3.out⟩
    · have hl' : decide (l1 = 1) = false := decide_eq_false hl
      by_cases hp0 : pv = 0
      · subst hp0
        go_wp2_with fail
        refine (HB'.out _).mono ?_
        rintro e w4 ⟨rfl, hb⟩
        have HB4 := Lib.hid (HB3.out.trans (hb.mono HB3.out.size))
        clear hb
        go_wp2_with fail
        exact bodyPost_ret (results_tmp2 rfl _ _ _) rfl ⟨by rw [HS.out, HSV.out]; simp [hl]; rw [ZB.out], HB4.out⟩
      · by_cases hp1 : pv = 1
        · subst hp1
          by_cases h2 : bits .and .u64 st 2 = 0
          · have h2' : (bits .and .u64 st 2 != 0) = false := by rw [h2]; rfl
            go_wp2_with fail
            exact bodyPost_ret (results_tmp2 rfl _ _ _) rfl ⟨by rw [HS.out, HSV.out]; simp [hl, h2]; rfl, HB3.out⟩
          · have h2' : (bits .and .u64 st 2 != 0) = true := by simpa using h2
            go_wp2_with fail
            refine (HB'.out _).mono ?_
            rintro e w4 ⟨rfl, hb⟩
            have HB4 := Lib.hid (HB3.out.trans (hb.mono HB3.out.size))
            clear hb
            go_wp2_with fail
            exact bodyPost_ret (results_tmp2 rfl _ _ _) rfl ⟨by rw [HS.out, HSV.out]; simp [hl, h2]; rw [ZB.out], HB4.out⟩
        · have hp0' : (pv == 0) = false := by simpa using hp0
          go_wp2_with fail
          exact bodyPost_ret (results_tmp2 rfl _ _ _) rfl ⟨by rw [HS.out, HSV.out]; simp [hl, hp0, hp1]; rfl, HB3.out⟩
end Go.Proofs.YtkogjjeoihnjpaaGreat
end
