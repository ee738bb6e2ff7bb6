/- Contract of cache.New. No condition. -/
import Derived.Test.YtlcedcjcecahoaaCache5
import Derived.Laws.MakeOwn
import Derived.StillTailTactics
import Derived.BigRegion
import Derived.Deep.RegionWith
import Derived.Deep.RegionHeld3
import Derived.Deep.RegionLaw
import Derived.Deep.QuietTactic
import Derived.BigQuiet
import Derived.Deep.LoopGhost
import Derived.Deep.DeepCutAuto
import Derived.Deep.DeepFit
import Derived.Deep.DeepMust
import Derived.Handy
set_option linter.unusedVariables false
set_option linter.unusedSimpArgs false
namespace Go.Proofs.Ytlcedcjcecahoaa
open Go.RowKit
set_option maxRecDepth 100000
/-! the row of the numbers of sets -/
def fiveAt (W : World) (g : Nat) : Prop := W.cell? ⟨g, 0, none⟩ = some (.int .i64 1) ∧ W.cell? ⟨g, 1, none⟩ = some (.int .i64 2) ∧ W.cell? ⟨g, 2, none⟩ = some (.int .i64 4) ∧ W.cell? ⟨g, 3, none⟩ = some (.int .i64 8) ∧ W.cell? ⟨g, 4, none⟩ = some (.int .i64 16)
theorem index_five {n : Nat} (hn : Sets n) (g : Nat) (w : World) (h : fiveAt w g) :
    Calls Try.prog 45 #[.slice (some ⟨g, 0, none⟩) 5 5, .int .i64 n] w fun e w' => (∃ k : Nat, e = .returned (.int .i64 k)) ∧ w = w' := by
  obtain ⟨c0, c1, c2, c3, c4⟩ := h
  rcases hn with rfl | rfl | rfl | rfl | rfl
  all_goals
    go_enter Try.func45, Try.ntmps45
    go_wp2
    go_rounds 6
    go_ret
    exact ⟨⟨_, rfl⟩, rfl⟩
theorem contains_five {n : Nat} (hn : Sets n) (g : Nat) (w : World) (h : fiveAt w g) :
    Calls Try.prog 24 #[.slice (some ⟨g, 0, none⟩) 5 5, .int .i64 n] w fun e w' => e = .returned (.bool true) ∧ w = w' := by
  have HI := Lib.hid (index_five hn g w h)
  clear h hn
  go_enter Try.func24, Try.ntmps24
  go_wp2_with fail
  refine HI.out.mono ?_
  rintro e w' ⟨⟨k, rfl⟩, rfl⟩
  have hk : (0 : Int) ≤ (k : Int) := by omega
  go_wp2_with fail
  go_ret
  exact ⟨ret_bool (by simp), rfl⟩
/-! rows that are made -/
theorem mod_and (x : Int) (x0 : 0 ≤ x) (x1 : x < 18446744073709551616) (k : Nat) (hk : k ≤ 8) : bits .and .u64 x ((2 ^ k - 1 : Nat) : Int) = ((x.toNat % 2 ^ k : Nat) : Int) := by
  obtain ⟨n, rfl⟩ := Int.eq_ofNat_of_zero_le x0
  have hp : (2 : Nat) ^ k ≤ 2 ^ 8 := Nat.pow_le_pow_right (by omega) hk
  have hp0 : 0 < (2 : Nat) ^ k := Nat.pow_pos (by omega)
  show IntKind.u64.wrap ((BitVec.ofInt 64 (n : Int) &&& BitVec.ofInt 64 ((2 ^ k - 1 : Nat) : Int)).toNat : Int) = _
  have e2 : ∀ q : Nat, q < 2 ^ 64 → (BitVec.ofInt 64 (q : Int)).toNat = q := fun q hq => by simp; omega
  rw [BitVec.toNat_and, e2 n (by omega), e2 _ (by omega), Nat.and_two_pow_sub_one_eq_mod, IntKind.wrap_u64]
  have : n % 2 ^ k < 2 ^ k := Nat.mod_lt _ hp0
  simp only [Int.toNat_natCast]
  omega
theorem A_line : ∃ i, Try.prog.info? 76 = some i ∧ i.zero = some (.agg (lineArr CLine.zero)) ∧ i.size = 67 ∧ i.bytes ≤ 128 := by
  have h : (Try.prog.info? 76).map (fun i => (i.zero, i.size, i.bytes)) = some (some (.agg (lineArr CLine.zero)), 67, 80) := by kernel_rfl
  obtain ⟨i, hi, hz⟩ := Option.map_eq_some_iff.1 h
  simp only [Prod.mk.injEq] at hz
  exact ⟨i, hi, hz.1, hz.2.1, by omega⟩
theorem A_set : ∃ i, Try.prog.info? 65 = some i ∧ i.zero = some (.agg #[.slice none 0 0, .int .i64 0]) ∧ i.size = 2 ∧ i.bytes ≤ 128 := by
  have h : (Try.prog.info? 65).map (fun i => (i.zero, i.size, i.bytes)) = some (some (.agg #[.slice none 0 0, .int .i64 0]), 2, 32) := by kernel_rfl
  obtain ⟨i, hi, hz⟩ := Option.map_eq_some_iff.1 h
  simp only [Prod.mk.injEq] at hz
  exact ⟨i, hi, hz.1, hz.2.1, by omega⟩
theorem make_ways {m : Nat} (hm : Ways m) (w : World) : (Instr.makeSlice 63 (.int .i64 (m : Int)) (.int .i64 (m : Int))).run Try.prog w = .ok (.slice (some ⟨w.heap.size, 0, none⟩) m m) (w.alloc (.cells (madeCells (lineArr CLine.zero) (m * 67)) 76)) := by
  obtain ⟨i, hi, hz, hs, hb⟩ := A_line
  have h8 : (m : Int) ≤ 8 := by rcases hm with rfl | rfl | rfl <;> omega
  have hbm : (i.bytes : Int) * m ≤ 128 * 8 := Int.mul_le_mul (by omega) h8 (by omega) (by omega)
  have := run_make (P := Try.prog) w 63 76 i _ Try.underlying63 hi hz .i64 .i64 m m (by omega) (Int.le_refl _) (by omega) (by omega)
  rw [hs] at this
  simpa [Value.cells] using this
theorem make_sets {n : Nat} (hn : Sets n) (w : World) : (Instr.makeSlice 60 (.int .i64 (n : Int)) (.int .i64 (n : Int))).run Try.prog w = .ok (.slice (some ⟨w.heap.size, 0, none⟩) n n) (w.alloc (.cells (madeCells #[.slice none 0 0, .int .i64 0] (n * 2)) 65)) := by
  obtain ⟨i, hi, hz, hs, hb⟩ := A_set
  have h8 : (n : Int) ≤ 16 := by rcases hn with rfl | rfl | rfl | rfl | rfl <;> omega
  have hbm : (i.bytes : Int) * n ≤ 128 * 16 := Int.mul_le_mul (by omega) h8 (by omega) (by omega)
  have := run_make (P := Try.prog) w 60 65 i _ Try.underlying60 hi hz .i64 .i64 n n (by omega) (Int.le_refl _) (by omega) (by omega)
  rw [hs] at this
  simpa [Value.cells] using this
theorem made_get (z : Array Value) (n i : Nat) (hi : i < n) (hz : 0 < z.size) : (madeCells z n)[i]? = some (z[i % z.size]'(Nat.mod_lt _ hz)) := by
  have hlt : i % z.size < z.size := Nat.mod_lt _ hz
  simp [madeCells, hi, getElem!_pos z (i % z.size) hlt]
theorem ways_made (w : World) (m : Nat) : (w.alloc (.cells (madeCells (lineArr CLine.zero) (m * 67)) 76)).rowIs w.heap.size 76 (m * 67) (wayCell fun _ => CLine.zero) := by
  refine ⟨_, blk_alloc w _, size_madeCells _ _, fun i hi => ?_⟩
  have hs := lineArr_size CLine.zero
  rw [made_get _ _ _ hi (by omega)]
  have h1 := lineArr_get CLine.zero (i % 67) (by omega)
  have h2 : i % (lineArr CLine.zero).size = i % 67 := by rw [hs]
  unfold wayCell
  rw [← h1]
  simp only [h2]
  exact (Array.getElem?_eq_getElem (by omega)).symm
/-- the first k sets are there -/
def setsTo (wb : Nat → Nat) (m : Nat) (st : Nat → Nat) (k i : Nat) : Value := if i / 2 < k then setCellF wb m st i else if i % 2 = 0 then .slice none 0 0 else .int .i64 0
theorem sets_made (w : World) (n : Nat) (wb st : Nat → Nat) (m : Nat) : (w.alloc (.cells (madeCells #[.slice none 0 0, .int .i64 0] (n * 2)) 65)).rowIs w.heap.size 65 (n * 2) (setsTo wb m st 0) := by
  refine ⟨_, blk_alloc w _, size_madeCells _ _, fun i hi => ?_⟩
  rw [made_get _ _ _ hi (by simp)]
  unfold setsTo
  rw [if_neg (by omega)]
  rcases Nat.mod_two_eq_zero_or_one i with h | h <;> simp [h]
/-- a new cache lies so -/
def NewCache (w : World) (n m : Nat) (e : Ending) (w' : World) : Prop := ∃ b sb wb st, e = .returned (.tuple #[.pointer (some ⟨b, 0, none⟩), .int .i64 0]) ∧ CacheIs w' b sb wb n m (fun _ _ => CLine.zero) st ∧ w.heap.size ≤ b ∧ (∀ g, CacheOwn sb wb n g → w.heap.size ≤ g) ∧ Below w.heap.size w w'
/-- under way: k sets are there -/
def NewTo (w : World) (b sb n m k : Nat) (wr : World) : Prop := ∃ wb st, wr.heap[b]? = some (.cells #[.slice (some ⟨sb, 0, none⟩) n n] 62 (0, 0)) ∧ wr.rowIs sb 65 (n * 2) (setsTo wb m st k) ∧ (∀ s, s < k → wr.rowIs (wb s) 76 (m * 67) (wayCell fun _ => CLine.zero)) ∧ (∀ s t, s < k → t < k → wb s = wb t → s = t) ∧ (∀ s, s < k → st s < 2 ^ (m - 1)) ∧ (∀ s, s < k → w.heap.size ≤ wb s) ∧ w.heap.size ≤ b ∧ w.heap.size ≤ sb ∧ Below w.heap.size w wr
theorem NewTo.step {w wr w2 : World} {b sb n m k : Nat} (h : NewTo w b sb n m k wr) (t : Nat) (ht : t < 2 ^ (m - 1)) (hk : k < n) (hw : w2 = ((wr.drew.alloc (.cells (madeCells (lineArr CLine.zero) (m * 67)) 76)).setCell ⟨sb, k * 2, none⟩ (.slice (some ⟨wr.heap.size, 0, none⟩) m m)).setCell ⟨sb, k * 2 + 1, none⟩ (.int .i64 (t : Nat))) : NewTo w b sb n m (k + 1) w2 := by
  obtain ⟨wb, st, h1, h2, h3, h4, h5, h6, h7, h8, h9⟩ := h
  have hbs : b ≠ sb := fun e => by
    obtain ⟨c, hc, _⟩ := h2
    subst e; rw [h1] at hc; cases hc
  have hsl := h2.lt
  have hbl := blk_lt h1
  have hal : Below wr.heap.size wr (wr.drew.alloc (.cells (madeCells (lineArr CLine.zero) (m * 67)) 76)) := (Below.refl _ wr).drew.alloc (Nat.le_refl _) _
  have hr := (h2.of_block (hal.block _ hsl)).set (k * 2) (.slice (some ⟨wr.heap.size, 0, none⟩) m m) |>.set (k * 2 + 1) (.int .i64 (t : Nat))
  have hT : Turned (· = sb) (wr.drew.alloc (.cells (madeCells (lineArr CLine.zero) (m * 67)) 76)) w2 := by rw [hw]; exact ((Turned.refl (· = sb) _).set (.inl rfl) _ _).set (.inl rfl) _ _
  have hnew := ways_made wr.drew m
  have hsz : wr.drew.heap.size = wr.heap.size := rfl
  refine ⟨fun s => if s = k then wr.heap.size else wb s, fun s => if s = k then t else st s, ?_, ?_, fun s hs => ?_, fun s t' hs ht' e => ?_, fun s hs => ?_, fun s hs => ?_, h7, h8, ?_⟩
  · exact (hT.block _ (by have := hal.size; omega) hbs).trans ((hal.block _ hbl).trans h1)
  · rw [hw]
    refine hr.congr fun i hi => ?_
    unfold setsTo setCellF
    by_cases e1 : i = k * 2 + 1
    · subst e1
      rw [if_pos rfl, if_pos (by omega), if_neg (by omega), show (k * 2 + 1) / 2 = k by omega]
      simp
    · rw [if_neg e1]
      by_cases e0 : i = k * 2
      · subst e0
        rw [if_pos rfl, if_pos (by omega), if_pos (by omega), show k * 2 / 2 = k by omega]
        simp
      · rw [if_neg e0]
        by_cases e2 : i / 2 < k
        · rw [if_pos e2, if_pos (show i / 2 < k + 1 by omega)]
          simp [show ¬ i / 2 = k by omega]
        · rw [if_neg e2, if_neg (show ¬ i / 2 < k + 1 by omega)]
  · by_cases e : s = k
    · subst e
      simp only [if_true]
      exact hnew.of_block (hT.block _ (by simp) (by omega))
    · simp only [e, if_false]
      have hws := h3 s (by omega)
      refine (hws.of_block (hal.block _ hws.lt)).of_block (hT.block _ (by have := hal.size; have := hws.lt; omega) (fun q => ?_))
      obtain ⟨c, hc, _⟩ := hws
      obtain ⟨c', hc', _⟩ := h2
      rw [q, hc'] at hc
      cases hc
  · have l1 : ∀ s, s < k → wb s < wr.heap.size := fun s hs => (h3 s hs).lt
    simp only at e
    by_cases e1 : s = k
    · by_cases e2 : t' = k
      · omega
      · rw [if_pos e1, if_neg e2] at e; have := l1 t' (by omega); omega
    · by_cases e2 : t' = k
      · rw [if_neg e1, if_pos e2] at e; have := l1 s (by omega); omega
      · rw [if_neg e1, if_neg e2] at e; exact h4 s t' (by omega) (by omega) e
  · by_cases e : s = k
    · simp only [e, if_true]; exact ht
    · simp only [e, if_false]; exact h5 s (by omega)
  · by_cases e : s = k
    · simp only [e, if_true]; exact h9.size
    · simp only [e, if_false]; exact h6 s (by omega)
  · exact (h9.trans (hal.mono h9.size)).trans (hT.below (Nat.le_trans h9.size hal.size) (by rintro g rfl; exact h8))
theorem NewTo.end_ {w wr : World} {b sb n m : Nat} (h : NewTo w b sb n m n wr) (hn : Sets n) (hm : Ways m) (k : Nat) : NewCache w n m (.returned (.tuple #[.pointer (some ⟨b, 0, none⟩), .int .i64 0])) (wr.drewN k) := by
  obtain ⟨wb, st, h1, h2, h3, h4, h5, h6, h7, h8, h9⟩ := h
  refine ⟨b, sb, wb, st, rfl, ⟨h1, h2.congr fun i hi => ?_, h3, h4, hn, hm, h5, fun _ _ => CLine.zero_ok⟩, h7, ?_, h9.trans ⟨rfl, rfl, rfl, Nat.le_refl _, fun _ _ => rfl⟩⟩
  · unfold setsTo; rw [if_pos (by omega)]
  · rintro g (rfl | ⟨s, hs, rfl⟩)
    · exact h8
    · exact h6 s hs
set_option maxHeartbeats 8000000 in
theorem cache_new {n m : Nat} (hn : Sets n) (hm : Ways m) (seed : Int) (s0 : 0 ≤ seed) (s1 : seed < 18446744073709551616) (w : World) :
    Calls Try.prog 8 #[.int .i64 n, .int .i64 m, .int .u64 seed] w (NewCache w n m) := by
  have HN := Lib.hid hn; have HM := Lib.hid hm
  have HC := fun (W : World) (g : Nat) (h : fiveAt W g) => Lib.hid (contains_five hn g W h)
  have HP := fun W => Lib.hid (plru_may hm (s := 0) (Nat.pow_pos (by omega)) W)
  have hmk := make_ways hm
  have hms := make_sets hn
  have hn16 : (0 : Int) < n ∧ (n : Int) ≤ 16 := by rcases hn with rfl | rfl | rfl | rfl | rfl <;> omega
  have hm8 : (2 : Int) ≤ m ∧ (m : Int) ≤ 8 := by rcases hm with rfl | rfl | rfl <;> omega
  obtain ⟨n0, n16⟩ := hn16
  obtain ⟨m2, m8⟩ := hm8
  clear hn hm
  go_enter Try.func8, Try.ntmps8
  go_wp2_with fail
  refine ((HC _ _ ⟨blk_cell (blk_alloc w _) 0, blk_cell (blk_alloc w _) 1, blk_cell (blk_alloc w _) 2, blk_cell (blk_alloc w _) 3, blk_cell (blk_alloc w _) 4⟩).out).mono ?_
  rintro e w1 ⟨rfl, rfl⟩
  go_wp2_with fail
  refine ((HP _).out).mono ?_
  rintro e w1 ⟨rfl, rfl⟩
  have HB1 := Lib.hid ((Below.refl w.heap.size w).alloc (Nat.le_refl _) (.cells #[.int .i64 1, .int .i64 2, .int .i64 4, .int .i64 8, .int .i64 16] 3))
  generalize hw1 : w.alloc (.cells #[.int .i64 1, .int .i64 2, .int .i64 4, .int .i64 8, .int .i64 16] 3) = w1 at *
  clear hw1
  go_wp2_with fail
  have HST : Hid (NewTo w (w1.heap.size + 1) w1.heap.size n m 0 ((w1.alloc (.cells (madeCells #[.slice none 0 0, .int .i64 0] (n * 2)) 65)).alloc (.cells #[.slice (some ⟨w1.heap.size, 0, none⟩) n n] 62))) := by
    have hs := sets_made w1 n (fun _ => 0) (fun _ => 0) m
    have hb := blk_alloc (w1.alloc (.cells (madeCells #[.slice none 0 0, .int .i64 0] (n * 2)) 65)) (.cells #[.slice (some ⟨w1.heap.size, 0, none⟩) n n] 62)
    rw [show (w1.alloc (.cells (madeCells #[.slice none 0 0, .int .i64 0] (n * 2)) 65)).heap.size = w1.heap.size + 1 by simp] at hb
    refine ⟨fun _ => 0, fun _ => 0, hb, hs.alloc _, fun s h => absurd h (by omega), fun s t h => absurd h (by omega), fun s h => absurd h (by omega), fun s h => absurd h (by omega), by have := HB1.out.size; omega, HB1.out.size, (HB1.out.alloc HB1.out.size _).alloc (by have := HB1.out.size; simp; omega) _⟩
  generalize (w1.alloc (.cells (madeCells #[.slice none 0 0, .int .i64 0] (n * 2)) 65)).alloc (.cells #[.slice (some ⟨w1.heap.size, 0, none⟩) n n] 62) = w2 at *
  generalize w1.heap.size + 1 = b at *
  generalize w1.heap.size = sb at *
  go_loopw [28] (fun i wr => ∃ k : Nat, (k : Int) ≤ n ∧ i = .int .i64 k ∧ NewTo w b sb n m k wr) (fun i _ => n - (intOf i).toNat)
  case atStart => exact ⟨0, by omega, rfl, HST.out⟩
  case round =>
    clear HST
    obtain ⟨k, hk, rfl, hto⟩ := hrel
    have HTO := Lib.hid hto
    clear hto
    by_cases hlt : (k : Int) < n
    · clear hk
      have hk0 : (0 : Int) ≤ (k : Int) := by omega
      have HK : Hid (0 ≤ (k : Int) ∧ (k : Int) < 16) := ⟨hk0, by omega⟩
      have c0 : wr.cell? ⟨b, 0, none⟩ = some (.slice (some ⟨sb, 0, none⟩) n n) := by obtain ⟨_, _, h, _⟩ := HTO.out; exact blk_cell h 0
      have hd0 : 0 ≤ seed / 2 ^ (3 * k) := Int.ediv_nonneg s0 (Int.pow_nonneg (by omega))
      have hd1 : seed / 2 ^ (3 * k) ≤ seed := Int.ediv_le_self _ s0
      have HAND : Hid (bits .and .u64 (seed / 2 ^ (3 * k)) ((2 ^ (m - 1) - 1 : Nat) : Int) = (((seed / 2 ^ (3 * k)).toNat % 2 ^ (m - 1) : Nat) : Int)) := mod_and _ hd0 (by omega) _ (by omega)
      have HTL : Hid ((seed / 2 ^ (3 * k)).toNat % 2 ^ (m - 1) < 2 ^ (m - 1)) := Nat.mod_lt _ (Nat.pow_pos (by omega))
      have HT8 : Hid ((seed / 2 ^ (3 * k)).toNat % 2 ^ (m - 1) < 128) := by
        have h1 := HTL.out
        have h2 : (2 : Nat) ^ (m - 1) ≤ 2 ^ 7 := Nat.pow_le_pow_right (by omega) (by omega)
        show _ < _
        omega
      have HCV : Hid (IntKind.i64.wrap (((seed / 2 ^ (3 * k)).toNat % 2 ^ (m - 1) : Nat) : Int) = (((seed / 2 ^ (3 * k)).toNat % 2 ^ (m - 1) : Nat) : Int)) := by
        show IntKind.i64.wrap _ = _
        have := HT8.out
        exact IntWalk.i64_in _ ⟨by omega, by omega⟩
      have C0 := Lib.hid c0
      have HW3 : Hid (IntKind.i64.wrap (3 * (k : Int)) = 3 * (k : Int)) := by
        show IntKind.i64.wrap _ = _
        have := HK.out
        exact IntWalk.i64_in _ ⟨by omega, by omega⟩
      have HSH : Hid (Op.shift .shr .u64 seed .i64 (3 * (k : Int)) = pure (.int .u64 (seed / 2 ^ (3 * k)))) := by
        show Op.shift _ _ _ _ _ = _
        have h1 := HK.out
        rw [shift_shr _ _ _ _ (by omega) (by show 3 * (k : Int) ≤ ((64 : Nat) : Int); omega), show (3 * (k : Int)).toNat = 3 * k by omega]
      clear hd0 hd1
      generalize (seed / 2 ^ (3 * k)).toNat % 2 ^ (m - 1) = tt at *
      go_wp2_with fail
      refine wp_region_held_drew (S := fun wq => wq.cell? ⟨b, 0, none⟩ = some (.slice (some ⟨sb, 0, none⟩) n n)) (by kernel_rfl) C0.out (fun hH => ?_)
      refine wpAnyH_take (i := 0) (oi := ⟨some 31, _, _, _, _, _⟩) (v := ?_) rfl (by kernel_rfl) (by kernel_rfl) (by kernel_rfl) (fun _ _ _ h => h) (Or.inl ⟨by kernel_rfl, ?_⟩) hH ?_
      rotate_left 1
      · intro wq hq; have c0 := hq; first | (go_simp; done) | (go_simp; with_reducible rfl)
      simp only [Act.put, List.setIfInBounds_toArray, List.set_cons_zero, List.set_cons_succ]
      refine wpAnyH_take (i := 1) (oi := ⟨some 32, _, _, _, _, _⟩) (v := ?_) rfl (by kernel_rfl) (by kernel_rfl) (by kernel_rfl) (fun _ _ _ h => h) (Or.inl ⟨by kernel_rfl, ?_⟩) hH ?_
      rotate_left 1
      · intro wq hq; have c0 := hq; first | (go_simp; done) | (go_simp; with_reducible rfl)
      simp only [Act.put, List.setIfInBounds_toArray, List.set_cons_zero, List.set_cons_succ]
      refine wpAnyH_take (i := 2) (oi := ⟨some 33, _, _, _, _, _⟩) (v := ?_) rfl (by kernel_rfl) (by kernel_rfl) (by kernel_rfl) (fun _ _ _ h => h) (Or.inl ⟨by kernel_rfl, ?_⟩) hH ?_
      rotate_left 1
      · intro wq hq; have c0 := hq; first | (go_simp; done) | (go_simp; with_reducible rfl)
      simp only [Act.put, List.setIfInBounds_toArray, List.set_cons_zero, List.set_cons_succ]
      refine wpAnyH_take (i := 3) (oi := ⟨some 34, _, _, _, _, _⟩) (v := ?_) rfl (by kernel_rfl) (by kernel_rfl) (by kernel_rfl) (fun _ _ _ h => h) (Or.inl ⟨by kernel_rfl, ?_⟩) hH ?_
      rotate_left 1
      · intro wq hq; have c0 := hq; first | (go_simp; done) | (go_simp; with_reducible rfl)
      simp only [Act.put, List.setIfInBounds_toArray, List.set_cons_zero, List.set_cons_succ]
      refine wpAnyH_take (i := 4) (oi := ⟨some 35, _, _, _, _, _⟩) (v := ?_) rfl (by kernel_rfl) (by kernel_rfl) (by kernel_rfl) (fun _ _ _ h => h) (Or.inl ⟨by kernel_rfl, ?_⟩) hH ?_
      rotate_left 1
      · intro wq hq; have c0 := hq; first | (go_simp; done) | (go_simp; with_reducible rfl)
      simp only [Act.put, List.setIfInBounds_toArray, List.set_cons_zero, List.set_cons_succ]
      refine wpAnyH_take (i := 5) (oi := ⟨some 36, _, _, _, _, _⟩) (v := ?_) rfl (by kernel_rfl) (by kernel_rfl) (by kernel_rfl) (fun _ _ _ h => h) (Or.inl ⟨by kernel_rfl, ?_⟩) hH ?_
      rotate_left 1
      · intro wq hq; have c0 := hq; first | (go_simp; done) | (go_simp; with_reducible rfl)
      simp only [Act.put, List.setIfInBounds_toArray, List.set_cons_zero, List.set_cons_succ]
      refine wpAnyH_take (i := 7) (oi := ⟨some 38, _, _, _, _, _⟩) (v := ?_) rfl (by kernel_rfl) (by kernel_rfl) (by kernel_rfl) (fun _ _ _ h => h) (Or.inl ⟨by kernel_rfl, ?_⟩) hH ?_
      rotate_left 1
      · intro wq hq; have c0 := hq; first | (go_simp; done) | (go_simp; with_reducible rfl)
      simp only [Act.put, List.setIfInBounds_toArray, List.set_cons_zero, List.set_cons_succ]
      refine wpAnyH_take (i := 8) (oi := ⟨some 39, _, _, _, _, _⟩) (v := ?_) rfl (by kernel_rfl) (by kernel_rfl) (by kernel_rfl) (fun _ _ _ h => h) (Or.inl ⟨by kernel_rfl, ?_⟩) hH ?_
      rotate_left 1
      · intro wq hq; have c0 := hq; first | (go_simp; done) | (go_simp; with_reducible rfl)
      simp only [Act.put, List.setIfInBounds_toArray, List.set_cons_zero, List.set_cons_succ]
      refine wpAnyH_take (i := 9) (oi := ⟨some 40, _, _, _, _, _⟩) (v := .int .i64 (3 * (k : Int))) rfl (by kernel_rfl) (by kernel_rfl) (by kernel_rfl) (fun _ _ _ h => h) (Or.inl ⟨by kernel_rfl, ?_⟩) hH ?_
      · intro wq hq; have hw := HW3.out; go_simp
      simp only [Act.put, List.setIfInBounds_toArray, List.set_cons_zero, List.set_cons_succ]
      refine wpAnyH_take (i := 10) (oi := ⟨some 41, _, _, _, _, _⟩) (v := .int .u64 (seed / 2 ^ (3 * k))) rfl (by kernel_rfl) (by kernel_rfl) (by kernel_rfl) (fun _ _ _ h => h) (Or.inl ⟨by kernel_rfl, ?_⟩) hH ?_
      · intro wq hq; go_simp; rw [show (3 * (k : Int)).toNat = 3 * k by omega]
      simp only [Act.put, List.setIfInBounds_toArray, List.set_cons_zero, List.set_cons_succ]
      refine wpAnyH_take (i := 11) (oi := ⟨some 42, _, _, _, _, _⟩) (v := ?_) rfl (by kernel_rfl) (by kernel_rfl) (by kernel_rfl) (fun _ _ _ h => h) (Or.inl ⟨by kernel_rfl, ?_⟩) hH ?_
      rotate_left 1
      · intro wq hq; have c0 := hq; first | (go_simp; done) | (go_simp; with_reducible rfl)
      simp only [Act.put, List.setIfInBounds_toArray, List.set_cons_zero, List.set_cons_succ]
      refine wpAnyH_take (i := 12) (oi := ⟨some 43, _, _, _, _, _⟩) (v := ?_) rfl (by kernel_rfl) (by kernel_rfl) (by kernel_rfl) (fun _ _ _ h => h) (Or.inl ⟨by kernel_rfl, ?_⟩) hH ?_
      rotate_left 1
      · intro wq hq; have c0 := hq; first | (go_simp; done) | (go_simp; with_reducible rfl)
      simp only [Act.put, List.setIfInBounds_toArray, List.set_cons_zero, List.set_cons_succ]
      refine wpAnyH_take (i := 13) (oi := ⟨some 44, _, _, _, _, _⟩) (v := .int .u64 ((2 ^ (m - 1) : Nat) : Int)) rfl (by kernel_rfl) (by kernel_rfl) (by kernel_rfl) (fun _ _ _ h => h) (Or.inl ⟨by kernel_rfl, ?_⟩) hH ?_
      · intro wq hq; rcases HM.out with rfl | rfl | rfl <;> kernel_rfl
      simp only [Act.put, List.setIfInBounds_toArray, List.set_cons_zero, List.set_cons_succ]
      refine wpAnyH_take (i := 14) (oi := ⟨some 45, _, _, _, _, _⟩) (v := .int .u64 ((2 ^ (m - 1) - 1 : Nat) : Int)) rfl (by kernel_rfl) (by kernel_rfl) (by kernel_rfl) (fun _ _ _ h => h) (Or.inl ⟨by kernel_rfl, ?_⟩) hH ?_
      · intro wq hq; rcases HM.out with rfl | rfl | rfl <;> kernel_rfl
      simp only [Act.put, List.setIfInBounds_toArray, List.set_cons_zero, List.set_cons_succ]
      refine wpAnyH_take (i := 15) (oi := ⟨some 46, _, _, _, _, _⟩) (v := .int .u64 (tt : Int)) rfl (by kernel_rfl) (by kernel_rfl) (by kernel_rfl) (fun _ _ _ h => h) (Or.inl ⟨by kernel_rfl, ?_⟩) hH ?_
      · intro wq hq; have hand := HAND.out; go_simp
      simp only [Act.put, List.setIfInBounds_toArray, List.set_cons_zero, List.set_cons_succ]
      refine wpAnyH_take (i := 16) (oi := ⟨some 47, _, _, _, _, _⟩) (v := .int .i64 (tt : Int)) rfl (by kernel_rfl) (by kernel_rfl) (by kernel_rfl) (fun _ _ _ h => h) (Or.inl ⟨by kernel_rfl, ?_⟩) hH ?_
      · intro wq hq; have hcv := HCV.out; go_simp
      simp only [Act.put, List.setIfInBounds_toArray, List.set_cons_zero, List.set_cons_succ]
      refine wpAnyH_ready (rs := [6]) (by kernel_rfl) (by simp) (AllReadyH.cons (o := ⟨some 37, _, _, _, _, _⟩) rfl (fun K hK => ?_) AllReadyH.nil)
      have hmk2 := hmk
      go_simp
      refine hK.out _ _ ?_ (fun hH => ?_)
      · exact (World.cell?_alloc_lt _ _ _ (World.block_lt_of_cell? _ _ hH)).trans hH
      clear hK K
      try simp only [Act.put, List.setIfInBounds_toArray, List.set_cons_zero, List.set_cons_succ]
      refine wpAnyH_take (i := 17) (oi := ⟨some 48, _, _, _, _, _⟩) (v := ?_) rfl (by kernel_rfl) (by kernel_rfl) (by kernel_rfl) (fun _ _ _ h => h) (Or.inl ⟨by kernel_rfl, ?_⟩) hH ?_
      rotate_left 1
      · intro wq hq; have c0 := hq; first | (go_simp; done) | (go_simp; with_reducible rfl)
      simp only [Act.put, List.setIfInBounds_toArray, List.set_cons_zero, List.set_cons_succ]
      refine wpAnyH_take (i := 18) (oi := ⟨some 49, _, _, _, _, _⟩) (v := ?_) rfl (by kernel_rfl) (by kernel_rfl) (by kernel_rfl) (fun _ _ _ h => h) (Or.inl ⟨by kernel_rfl, ?_⟩) hH ?_
      rotate_left 1
      · intro wq hq; have c0 := hq; first | (go_simp; done) | (go_simp; with_reducible rfl)
      simp only [Act.put, List.setIfInBounds_toArray, List.set_cons_zero, List.set_cons_succ]
      refine wpAnyH_ready (rs := [19]) (by kernel_rfl) (by simp) (AllReadyH.cons (o := ⟨none, _, _, _, _, _⟩) rfl (fun K hK => ?_) AllReadyH.nil)
      have hal : Below wr.heap.size wr (wr.drew.alloc (.cells (madeCells (lineArr CLine.zero) (m * 67)) 76)) := (Below.refl _ wr).drew.alloc (Nat.le_refl _) _
      obtain ⟨wb, st, _, hrow, _⟩ := HTO.out
      have hrow2 := hrow.of_block (hal.block _ hrow.lt)
      have k1 : (wr.alloc (.cells (madeCells (lineArr CLine.zero) (m * 67)) 76)).drew.cell? ⟨sb, k * 2, none⟩ = some (.slice none 0 0) := by
        show (wr.drew.alloc (.cells (madeCells (lineArr CLine.zero) (m * 67)) 76)).cell? _ = _
        rw [hrow2.cell (by omega)]; unfold setsTo; rw [if_neg (by omega), if_pos (by omega)]
      have k2 : (wr.alloc (.cells (madeCells (lineArr CLine.zero) (m * 67)) 76)).drew.cell? ⟨sb, k * 2 + 1, none⟩ = some (.int .i64 0) := by
        show (wr.drew.alloc (.cells (madeCells (lineArr CLine.zero) (m * 67)) 76)).cell? _ = _
        rw [hrow2.cell (by omega)]; unfold setsTo; rw [if_neg (by omega), if_neg (by omega)]
      have k3 : (wr.alloc (.cells (madeCells (lineArr CLine.zero) (m * 67)) 76)).drew.frozen? ⟨sb, k * 2, none⟩ = false := hrow2.frozen (k * 2)
      have k4 : (wr.alloc (.cells (madeCells (lineArr CLine.zero) (m * 67)) 76)).drew.frozen? ⟨sb, k * 2 + 1, none⟩ = false := hrow2.frozen (k * 2 + 1)
      have hrow3 := hrow2.set (k * 2) (.slice (some ⟨wr.heap.size, 0, none⟩) m m)
      have k5 : (((wr.alloc (.cells (madeCells (lineArr CLine.zero) (m * 67)) 76)).setCell ⟨sb, k * 2, none⟩ (.slice (some ⟨wr.heap.size, 0, none⟩) m m)).drew).cell? ⟨sb, k * 2 + 1, none⟩ = some (.int .i64 0) := by
        show ((wr.drew.alloc (.cells (madeCells (lineArr CLine.zero) (m * 67)) 76)).setCell ⟨sb, k * 2, none⟩ (.slice (some ⟨wr.heap.size, 0, none⟩) m m)).cell? _ = _
        rw [hrow3.cell (by omega), if_neg (by omega)]; unfold setsTo; rw [if_neg (by omega), if_neg (by omega)]
      have k6 : (((wr.alloc (.cells (madeCells (lineArr CLine.zero) (m * 67)) 76)).setCell ⟨sb, k * 2, none⟩ (.slice (some ⟨wr.heap.size, 0, none⟩) m m)).drew).frozen? ⟨sb, k * 2 + 1, none⟩ = false := hrow3.frozen (k * 2 + 1)
      clear hrow3
      have HSB : Hid (b ≠ sb) := fun e => by
        obtain ⟨_, _, h1, h2, _⟩ := HTO.out
        obtain ⟨c, hc, _⟩ := h2
        rw [← e, h1] at hc; cases hc
      clear hrow hrow2 hal
      go_simp
      refine hK.out _ _ ?_ (fun hH => ?_)
      · show (((wr.alloc (.cells (madeCells (lineArr CLine.zero) (m * 67)) 76)).setCell ⟨sb, k * 2, none⟩ (.slice (some ⟨wr.heap.size, 0, none⟩) m m)).setCell ⟨sb, k * 2 + 1, none⟩ (.int .i64 (tt : Nat))).cell? ⟨b, 0, none⟩ = _
        rw [World.cell?_setCell_far _ ⟨sb, k * 2 + 1, none⟩ ⟨b, 0, none⟩ _ (Ne.symm HSB.out), World.cell?_setCell_far _ ⟨sb, k * 2, none⟩ ⟨b, 0, none⟩ _ (Ne.symm HSB.out)]; exact hH
      have HNX := Lib.hid (HTO.out.step (w2 := (((wr.alloc (.cells (madeCells (lineArr CLine.zero) (m * 67)) 76)).setCell ⟨sb, k * 2, none⟩ (.slice (some ⟨wr.heap.size, 0, none⟩) m m)).setCell ⟨sb, k * 2 + 1, none⟩ (.int .i64 (tt : Nat))).drew) tt HTL.out (by omega) rfl)
      clear k1 k2 k3 k4 k5 k6
      clear hK K
      try simp only [Act.put, List.setIfInBounds_toArray, List.set_cons_zero, List.set_cons_succ]
      refine wpAnyH_done (by kernel_rfl) ?_ _
      go_wp2_with fail
      exact ⟨⟨k + 1, by omega, by rw [Int.natCast_succ], HNX.out⟩, by simp [intOf]; omega⟩
    · obtain rfl : k = n := by omega
      have HE := Lib.hid (HTO.out.end_ HN.out HM.out 0)
      go_wp2_with fail
      go_ret2
      exact HE.out
end Go.Proofs.Ytlcedcjcecahoaa
