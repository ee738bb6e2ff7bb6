/- Contracts of the cache's small functions: line, set, touch, the closures of its searches, IndexFunc, find. No condition. -/
import Derived.Test.YtlcedcjcecahoaaCacheD
import Derived.StillTailTactics
import Derived.BigRegion
import Derived.Deep.RegionWith
import Derived.Deep.RegionHeld3
import Derived.Deep.QuietTactic
import Derived.BigQuiet
import Derived.Deep.LoopGhost
import Derived.Deep.DeepCutAuto
import Derived.Deep.DeepFit
import Derived.Deep.DeepMust
import Derived.Handy
set_option linter.unusedVariables false
set_option linter.unusedSimpArgs false
namespace Go.Proofs.Ytlcedcjcecahoaa
open Go.RowKit
set_option maxRecDepth 100000
theorem andNot_63n (n : Nat) (h : n < 2 ^ 64) : bits .andNot .u64 (n : Int) 63 = ((n - n % 64 : Nat) : Int) := by
  have e : (BitVec.ofNat 64 n &&& ~~~(63#64)).toNat = n - n % 64 := by
    have h1 : BitVec.ofNat 64 n &&& ~~~(63#64) = (BitVec.ofNat 64 n >>> 6) <<< 6 := by
      apply BitVec.eq_of_getLsbD_eq
      intro i hi
      simp only [BitVec.getLsbD_and, BitVec.getLsbD_not, BitVec.getLsbD_shiftLeft, BitVec.getLsbD_ushiftRight]
      by_cases h6 : i < 6
      · have : (63#64).getLsbD i = true := by
          match i, h6 with
          | 0, _ => rfl
          | 1, _ => rfl
          | 2, _ => rfl
          | 3, _ => rfl
          | 4, _ => rfl
          | 5, _ => rfl
        simp [this, h6]
      · have h7 : (63#64).getLsbD i = false := by
          rw [BitVec.getLsbD_ofNat]
          have : Nat.testBit 63 i = false := Nat.testBit_lt_two_pow (Nat.lt_of_lt_of_le (by decide : (63 : Nat) < 2 ^ 6) (Nat.pow_le_pow_right (by omega) (by omega)))
          simp [this]
        have h8 : (63#64)[i] = false := by rw [← BitVec.getLsbD_eq_getElem]; exact h7
        simp [h8, h6, hi, show 6 + (i - 6) = i by omega]
    rw [h1]
    simp only [BitVec.toNat_shiftLeft, BitVec.toNat_ushiftRight, BitVec.toNat_ofNat, Nat.shiftRight_eq_div_pow, Nat.shiftLeft_eq]
    omega
  show IntKind.u64.wrap ((BitVec.ofInt 64 (n : Int) &&& ~~~BitVec.ofInt 64 63).toNat : Int) = _
  have e2 : BitVec.ofInt 64 (n : Int) = BitVec.ofNat 64 n := by simp
  rw [e2]
  have e3 : BitVec.ofInt 64 63 = 63#64 := rfl
  rw [e3, e, IntKind.wrap_u64]
  omega
/-- where the line of an address begins -/
def lbase (x : Int) : Int := x - x % 64
theorem andNot_63 (x : Int) (h0 : 0 ≤ x) (h1 : x < 18446744073709551616) : bits .andNot .u64 x 63 = lbase x := by
  obtain ⟨n, rfl⟩ := Int.eq_ofNat_of_zero_le h0
  rw [andNot_63n n (by omega)]
  unfold lbase
  omega
theorem cache_line (x : Int) (h0 : 0 ≤ x) (h1 : x < 18446744073709551616) (w : World) : Calls Try.prog 33 #[.int .u64 x] w fun e w' => e = .returned (.int .u64 (lbase x)) ∧ w = w' := by
  have h := andNot_63 x h0 h1
  have H := Lib.hid h
  clear h
  go_enter Try.func33, Try.ntmps33
  go_wp2
  go_ret
  exact ⟨ret_int H.out, rfl⟩
/-- the set of an address -/
def setOf (n : Nat) (x : Int) : Nat := (x / 64 % n).toNat
theorem setOf_lt {n : Nat} (hn : Sets n) (x : Int) : setOf n x < n := by
  unfold setOf
  rcases hn with rfl | rfl | rfl | rfl | rfl <;> omega
set_option maxHeartbeats 1000000 in
theorem cache_set {w : World} {b sb : Nat} {wb : Nat → Nat} {n m : Nat} {L : Nat → Nat → CLine} {st : Nat → Nat} (h : CacheIs w b sb wb n m L st) (x : Int) (h0 : 0 ≤ x) (h1 : x < 18446744073709551616) :
    Calls Try.prog 48 #[.pointer (some ⟨b, 0, none⟩), .int .u64 x] w fun e w' => e = .returned (.pointer (some ⟨sb, setOf n x * 2, none⟩)) ∧ ∃ k, w' = w.drewN k := by
  have c0 : w.cell? ⟨b, 0, none⟩ = some (.slice (some ⟨sb, 0, none⟩) n n) := blk_cell h.at_ 0
  have hn : (0 : Int) < n ∧ (n : Int) ≤ 16 := by rcases h.hn with rfl | rfl | rfl | rfl | rfl <;> omega
  obtain ⟨hn0, hn1⟩ := hn
  have HS := Lib.hid (show (setOf n x : Int) = x / 64 % n ∧ setOf n x < n from by unfold setOf; refine ⟨?_, ?_⟩ <;> (have := Int.emod_nonneg (x / 64) (show (n : Int) ≠ 0 by omega); have := Int.emod_lt_of_pos (x / 64) hn0; omega))
  have g1 : 0 ≤ x / 64 := by omega
  have g2 : 0 ≤ x / 64 % n := Int.emod_nonneg _ (by omega)
  have g3 : x / 64 % n < n := Int.emod_lt_of_pos _ hn0
  clear h
  go_enter Try.func48, Try.ntmps48
  go_wp2
  go_quiet (fail)
  go_wp2
  go_ret
  exact ⟨rfl, _, rfl⟩
/-- a set's tree has turned to t -/
def upS (st : Nat → Nat) (s t : Nat) : Nat → Nat := fun k => if k = s then t else st k
theorem sets_put {w : World} {sb n m s : Nat} {wb : Nat → Nat} {st : Nat → Nat} (h : w.rowIs sb 65 (n * 2) (setCellF wb m st)) (t : Nat) : (w.setCell ⟨sb, s * 2 + 1, none⟩ (.int .i64 (t : Nat))).rowIs sb 65 (n * 2) (setCellF wb m (upS st s t)) := by
  refine (h.set (s * 2 + 1) _).congr fun i hi => ?_
  by_cases e : i = s * 2 + 1
  · subst e
    rw [if_pos rfl, setCellF_1]
    simp [upS]
  · rw [if_neg e]
    unfold setCellF
    by_cases e2 : i % 2 = 0
    · rw [if_pos e2, if_pos e2]
    · rw [if_neg e2, if_neg e2]
      have : i / 2 ≠ s := by omega
      simp [upS, this]
set_option maxHeartbeats 4000000 in
theorem set_touch {w : World} {sb n m s i : Nat} {wb : Nat → Nat} {st : Nat → Nat} (h : w.rowIs sb 65 (n * 2) (setCellF wb m st)) (hs : s < n) (hm : Ways m) (ht : st s < 2 ^ (m - 1)) (hi : i < m) :
    Calls Try.prog 34 #[.pointer (some ⟨sb, s * 2, none⟩), .int .i64 i] w fun e w' => e = .returned (.tuple #[]) ∧ w'.rowIs sb 65 (n * 2) (setCellF wb m (upS st s (touched m (st s) i))) ∧ Turned (· = sb) w w' := by
  have c0 : w.cell? ⟨sb, s * 2, none⟩ = some (.slice (some ⟨wb s, 0, none⟩) m m) := by rw [h.cell (by omega), setCellF_0]
  have c1 : w.cell? ⟨sb, s * 2 + 1, none⟩ = some (.int .i64 (st s : Nat)) := by rw [h.cell (by omega), setCellF_1]
  have f1 : w.frozen? ⟨sb, s * 2 + 1, none⟩ = false := h.frozen _
  have H := Lib.hid h
  have HT := fun W => Lib.hid (plru_touch hm ht hi W)
  clear h hs hm ht hi
  generalize hu : st s = u at *
  generalize touched m u i = t at *
  go_enter Try.func34, Try.ntmps34
  go_region_with ((go_at_call 50; refine ((HT _).out).mono ?_; rintro e w' ⟨rfl, rfl⟩))
  all_goals (go_end0; exact ⟨rfl, (sets_put H.out t).drew, ((Turned.refl (· = sb) w).set (.inl rfl) _ _).drew⟩)
attribute [local go_sem] la2
/-- is it the line of that address? -/
def isLine (x : Int) (l : CLine) : Bool := l.v && l.tag == lbase x
set_option maxHeartbeats 1000000 in
theorem find_1 (l : CLine) (x : Int) (h0 : 0 ≤ x) (h1 : x < 18446744073709551616) (pb : Nat) (w : World) (hp : w.cell? ⟨pb, 0, none⟩ = some (.int .u64 x)) :
    Calls Try.prog 49 #[.agg (lineArr l), .pointer (some ⟨pb, 0, none⟩)] w fun e w' => e = .returned (.bool (isLine x l)) ∧ Below w.heap.size w w' := by
  have HL := fun W => Lib.hid (cache_line x h0 h1 W)
  have HB := Lib.hid ((Below.refl w.heap.size w).alloc (Nat.le_refl _) (.cells (lineArr l) 76))
  have hlt : pb < w.heap.size := World.block_lt_of_cell? w _ hp
  have HI := Lib.hid (show isLine x l = (l.v && l.tag == lbase x) from rfl)
  clear h0 h1
  generalize hv : l.v = v at *
  have a0 : (lineArr l)[0]? = some (.bool v) := by rw [la0, hv]
  clear hv
  generalize lbase x = y at *
  cases v
  · go_enter Try.func49, Try.ntmps49
    go_wp2
    go_quiet (fail)
    go_wp2
    go_ret
    exact ⟨ret_bool (by rw [HI.out]; simp), HB.out.trans ⟨rfl, rfl, rfl, Nat.le_refl _, fun _ _ => rfl⟩⟩
  · have a2 : (lineArr l)[2]? = some (.int .u64 l.tag) := la2 l
    have hp2 : (w.alloc (.cells (lineArr l) 76)).cell? ⟨pb, 0, none⟩ = some (.int .u64 x) := by rw [World.cell?_alloc_lt _ _ _ hlt]; exact hp
    go_enter Try.func49, Try.ntmps49
    go_wp2
    go_quiet ((go_at_call 33; exact Calls.quiet_of_same ((HL _).out.mono fun _ _ q => ⟨q.1, q.2.symm⟩)))
    go_wp2
    go_ret
    exact ⟨ret_bool (by rw [HI.out]; simp), HB.out.trans ⟨rfl, rfl, rfl, Nat.le_refl _, fun _ _ => rfl⟩⟩
set_option maxHeartbeats 1000000 in
theorem fill_1 (l : CLine) (w : World) :
    Calls Try.prog 31 #[.agg (lineArr l)] w fun e w' => e = .returned (.bool (!l.v)) ∧ Below w.heap.size w w' := by
  have HB := Lib.hid ((Below.refl w.heap.size w).alloc (Nat.le_refl _) (.cells (lineArr l) 76))
  have a0 := la0 l
  go_enter Try.func31, Try.ntmps31
  go_wp2
  go_ret
  exact ⟨rfl, HB.out⟩
/-- the first of m for which p is -/
def first (p : Nat → Bool) : Nat → Nat
  | 0 => 0
  | m + 1 => if p 0 then 0 else first (fun i => p (i + 1)) m + 1
theorem first_le : ∀ (m : Nat) (p : Nat → Bool), first p m ≤ m
  | 0, _ => Nat.le_refl _
  | m + 1, p => by
    unfold first
    have := first_le m (fun i => p (i + 1))
    split <;> omega
theorem first_lt : ∀ (m : Nat) (p : Nat → Bool) (i : Nat), i < first p m → p i = false
  | 0, _, i, h => by simp [first] at h
  | m + 1, p, i, h => by
    unfold first at h
    split at h
    · omega
    · rename_i hp
      cases i with
      | zero => simpa using hp
      | succ i => exact first_lt m (fun i => p (i + 1)) i (by omega)
theorem first_at : ∀ (m : Nat) (p : Nat → Bool), first p m < m → p (first p m) = true
  | 0, _, h => by simp [first] at h
  | m + 1, p, h => by
    unfold first at h ⊢
    by_cases hp : p 0 = true
    · rw [if_pos hp]; exact hp
    · rw [if_neg hp] at h ⊢
      exact first_at m (fun i => p (i + 1)) (by omega)
theorem first_of {p : Nat → Bool} {m k : Nat} (hk : k < m) (hp : p k = true) (hn : ∀ i, i < k → p i = false) : first p m = k := by
  have h1 := first_le m p
  rcases Nat.lt_trichotomy (first p m) k with h | h | h
  · have := first_at m p (by omega)
    rw [hn _ h] at this
    cases this
  · exact h
  · have := first_lt m p k h
    rw [hp] at this
    cases this
theorem first_none {p : Nat → Bool} {m : Nat} (hn : ∀ i, i < m → p i = false) : first p m = m := by
  have h1 := first_le m p
  rcases Nat.lt_or_ge (first p m) m with h | h
  · have := first_at m p h
    rw [hn _ h] at this
    cases this
  · omega
/-- the same; below 0: none -/
def firstI (p : Nat → Bool) (m : Nat) : Int := if first p m < m then (first p m : Int) else -1
theorem firstI_none {p : Nat → Bool} {m : Nat} (hn : ∀ i, i < m → p i = false) : firstI p m = -1 := by
  unfold firstI
  rw [first_none hn, if_neg (by omega)]
theorem firstI_of {p : Nat → Bool} {m k : Nat} (hk : k < m) (hp : p k = true) (hn : ∀ i, i < k → p i = false) : firstI p m = (k : Int) := by
  unfold firstI
  rw [first_of hk hp hn, if_pos hk]
attribute [local go_sem ↓] ld_line
attribute [local go_sem] rl_line
set_option maxHeartbeats 4000000 in
theorem index_find {w : World} {g m : Nat} {L : Nat → CLine} (hr : w.rowIs g 76 (m * 67) (wayCell L)) (hm : Ways m) (pb : Nat)
    (p : CLine → Bool) (hp : ∀ (W : World) (l : CLine), Below w.heap.size w W → Calls Try.prog 49 #[.agg (lineArr l), .pointer (some ⟨pb, 0, none⟩)] W fun e w' => e = .returned (.bool (p l)) ∧ Below W.heap.size W w') :
    Calls Try.prog 30 #[.slice (some ⟨g, 0, none⟩) m m, .func (.func 49) #[] #[.pointer (some ⟨pb, 0, none⟩)]] w fun e w' => e = .returned (.int .i64 (firstI (fun i => p (L i)) m)) ∧ Below w.heap.size w w' := by
  have hm8 : (0 : Int) < m ∧ (m : Int) ≤ 8 := by rcases hm with rfl | rfl | rfl <;> omega
  obtain ⟨hm0, hm8⟩ := hm8
  have HR := Lib.hid hr; have HP := Lib.hid hp; have HW := Lib.hid (Below.refl w.heap.size w)
  have HGL := Lib.hid hr.lt
  clear hr hp hm
  go_enter Try.func30, Try.ntmps30
  go_wp2_with fail
  go_loopw [8] (fun i wr => ∃ k : Nat, (k : Int) ≤ m ∧ i = .int .i64 k ∧ (∀ j, j < k → p (L j) = false) ∧ Below w.heap.size w wr) (fun i _ => m - (intOf i).toNat)
  case atStart => exact ⟨0, by omega, rfl, fun j hj => absurd hj (by omega), HW.out⟩
  case round =>
    obtain ⟨k, hk, rfl, hno, hbe⟩ := hrel
    have HNO := Lib.hid hno; have HBE := Lib.hid hbe
    clear hno
    by_cases hlt : (k : Int) < m
    · clear hk
      have hrow := HR.out.of_block (hbe.block _ HGL.out)
      have e1 := way_there hrow (show k < m by omega)
      have e2 := way_line hrow (show k < m by omega)
      clear hrow hbe
      have HPK := Lib.hid (HP.out wr (L k) HBE.out)
      have HF1 : Hid (p (L k) = true → firstI (fun i => p (L i)) m = (k : Int)) := fun h => by
        exact firstI_of (p := fun i => p (L i)) (by omega) h HNO.out
      have HF2 : Hid (p (L k) = false → ∀ j, j < k + 1 → p (L j) = false) := fun h j hj => by
        by_cases e : j = k
        · subst e; exact h
        · exact HNO.out j (by omega)
      generalize p (L k) = pk at *
      generalize L k = lk at *
      go_wp2_with fail
      refine HPK.out.mono ?_
      rintro e w2 ⟨rfl, hb2⟩
      have HB2 : Hid (Below w.heap.size w w2) := HBE.out.trans (hb2.mono HBE.out.size)
      clear hb2
      cases pk
      · go_wp2_with fail
        exact ⟨⟨k + 1, by omega, by rw [Int.natCast_succ], HF2.out (by first | rfl | trivial), HB2.out⟩, by simp [intOf]; omega⟩
      · have HFK := Lib.hid (HF1.out (by first | rfl | trivial))
        go_wp2_with fail
        go_ret
        exact ⟨ret_int HFK.out.symm, HB2.out⟩
    · obtain rfl : k = m := by omega
      have HFK : Hid (firstI (fun i => p (L i)) k = -1) := by
        exact firstI_none HNO.out
      clear hbe
      go_wp2_with fail
      go_ret
      exact ⟨ret_int HFK.out.symm, HBE.out⟩
set_option maxHeartbeats 4000000 in
theorem index_fill {w : World} {g m : Nat} {L : Nat → CLine} (hr : w.rowIs g 76 (m * 67) (wayCell L)) (hm : Ways m)
    (p : CLine → Bool) (hp : ∀ (W : World) (l : CLine), Below w.heap.size w W → Calls Try.prog 31 #[.agg (lineArr l)] W fun e w' => e = .returned (.bool (p l)) ∧ Below W.heap.size W w') :
    Calls Try.prog 30 #[.slice (some ⟨g, 0, none⟩) m m, .func (.func 31) #[] #[]] w fun e w' => e = .returned (.int .i64 (firstI (fun i => p (L i)) m)) ∧ Below w.heap.size w w' := by
  have hm8 : (0 : Int) < m ∧ (m : Int) ≤ 8 := by rcases hm with rfl | rfl | rfl <;> omega
  obtain ⟨hm0, hm8⟩ := hm8
  have HR := Lib.hid hr; have HP := Lib.hid hp; have HW := Lib.hid (Below.refl w.heap.size w)
  have HGL := Lib.hid hr.lt
  clear hr hp hm
  go_enter Try.func30, Try.ntmps30
  go_wp2_with fail
  go_loopw [8] (fun i wr => ∃ k : Nat, (k : Int) ≤ m ∧ i = .int .i64 k ∧ (∀ j, j < k → p (L j) = false) ∧ Below w.heap.size w wr) (fun i _ => m - (intOf i).toNat)
  case atStart => exact ⟨0, by omega, rfl, fun j hj => absurd hj (by omega), HW.out⟩
  case round =>
    obtain ⟨k, hk, rfl, hno, hbe⟩ := hrel
    have HNO := Lib.hid hno; have HBE := Lib.hid hbe
    clear hno
    by_cases hlt : (k : Int) < m
    · clear hk
      have hrow := HR.out.of_block (hbe.block _ HGL.out)
      have e1 := way_there hrow (show k < m by omega)
      have e2 := way_line hrow (show k < m by omega)
      clear hrow hbe
      have HPK := Lib.hid (HP.out wr (L k) HBE.out)
      have HF1 : Hid (p (L k) = true → firstI (fun i => p (L i)) m = (k : Int)) := fun h => by
        exact firstI_of (p := fun i => p (L i)) (by omega) h HNO.out
      have HF2 : Hid (p (L k) = false → ∀ j, j < k + 1 → p (L j) = false) := fun h j hj => by
        by_cases e : j = k
        · subst e; exact h
        · exact HNO.out j (by omega)
      generalize p (L k) = pk at *
      generalize L k = lk at *
      go_wp2_with fail
      refine HPK.out.mono ?_
      rintro e w2 ⟨rfl, hb2⟩
      have HB2 : Hid (Below w.heap.size w w2) := HBE.out.trans (hb2.mono HBE.out.size)
      clear hb2
      cases pk
      · go_wp2_with fail
        exact ⟨⟨k + 1, by omega, by rw [Int.natCast_succ], HF2.out (by first | rfl | trivial), HB2.out⟩, by simp [intOf]; omega⟩
      · have HFK := Lib.hid (HF1.out (by first | rfl | trivial))
        go_wp2_with fail
        go_ret
        exact ⟨ret_int HFK.out.symm, HB2.out⟩
    · obtain rfl : k = m := by omega
      have HFK : Hid (firstI (fun i => p (L i)) k = -1) := by
        exact firstI_none HNO.out
      clear hbe
      go_wp2_with fail
      go_ret
      exact ⟨ret_int HFK.out.symm, HBE.out⟩
/-- where the line of that address is; below 0: nowhere -/
def wayI (m : Nat) (L : Nat → CLine) (x : Int) : Int := firstI (fun j => isLine x (L j)) m
theorem find_nil (x : Int) (w : World) : Calls Try.prog 28 #[.pointer none, .int .u64 x] w fun e w' => e = .returned (.tuple #[.pointer none, .int .i64 (-1)]) ∧ Below w.heap.size w w' := by
  have HB := Lib.hid ((Below.refl w.heap.size w).alloc (Nat.le_refl _) (.cells #[.int .u64 x] 22))
  go_enter Try.func28, Try.ntmps28
  go_wp2_with fail
  go_ret2
  exact ⟨rfl, HB.out⟩
set_option maxHeartbeats 4000000 in
theorem cache_find {w : World} {b sb : Nat} {wb : Nat → Nat} {n m : Nat} {L : Nat → Nat → CLine} {st : Nat → Nat} (h : CacheIs w b sb wb n m L st) (x : Int) (h0 : 0 ≤ x) (h1 : x < 18446744073709551616) :
    Calls Try.prog 28 #[.pointer (some ⟨b, 0, none⟩), .int .u64 x] w fun e w' => e = .returned (.tuple #[.pointer (some ⟨sb, setOf n x * 2, none⟩), .int .i64 (wayI m (L (setOf n x)) x)]) ∧ Below w.heap.size w w' := by
  have HB := Lib.hid ((Below.refl w.heap.size w).alloc (Nat.le_refl _) (.cells #[.int .u64 x] 22))
  have H := Lib.hid h
  have H2 := Lib.hid (h.below HB.out)
  have HS := Lib.hid (cache_set H2.out x h0 h1)
  have HX := Lib.hid (And.intro h0 h1)
  have hlt := setOf_lt h.hn x
  have HL := Lib.hid hlt
  have HI := Lib.hid (show wayI m (L (setOf n x)) x = firstI (fun j => isLine x (L (setOf n x) j)) m from rfl)
  have HIX := Lib.hid (fun (W : World) (pb : Nat) (hr : W.rowIs (wb (setOf n x)) 76 (m * 67) (wayCell (L (setOf n x)))) (hp : W.cell? ⟨pb, 0, none⟩ = some (.int .u64 x)) =>
    index_find hr h.hm pb (isLine x) (fun W' l hb => find_1 l x h0 h1 pb W' ((hb.cell (p := ⟨pb, 0, none⟩) (World.block_lt_of_cell? _ _ hp)).trans hp)))
  clear h h0 h1 hlt
  generalize hss : setOf n x = s at *
  clear hss
  generalize wayI m (L s) x = wi at *
  go_enter Try.func28, Try.ntmps28
  go_wp2_with fail
  refine HS.out.mono ?_
  rintro e w2 ⟨rfl, k, rfl⟩
  have HB2 : Hid (Below w.heap.size w ((w.alloc (.cells #[.int .u64 x] 22)).drewN k)) := HB.out.trans (⟨rfl, rfl, rfl, Nat.le_refl _, fun _ _ => rfl⟩)
  have H3 := Lib.hid (H.out.below HB2.out)
  have hpx : ((w.alloc (.cells #[.int .u64 x] 22)).drewN k).cell? ⟨w.heap.size, 0, none⟩ = some (.int .u64 x) := blk_cell (blk_alloc w _) 0
  have HPX := Lib.hid hpx
  clear hpx HS
  have HZ : Hid (((w.alloc (.cells #[.int .u64 x] 22)).drewN k).heap.size = w.heap.size + 1) := by show (w.heap.push _).size = _; simp
  generalize (w.alloc (.cells #[.int .u64 x] 22)).drewN k = w3 at *
  have c0 : w3.cell? ⟨sb, s * 2, none⟩ = some (.slice (some ⟨wb s, 0, none⟩) m m) := by rw [H3.out.sets.cell (by have := HL.out; omega), setCellF_0]
  go_wp2_with fail
  refine (HIX.out w3 w.heap.size (H3.out.ways s HL.out) HPX.out).mono ?_
  rintro e w4 ⟨rfl, hb4⟩
  have HB4 : Hid (Below w.heap.size w w4) := HB2.out.trans (hb4.mono (by have := HZ.out; omega))
  clear hb4
  rw [← HI.out]
  go_wp2_with fail
  go_ret2
  exact ⟨rfl, HB4.out⟩
end Go.Proofs.Ytlcedcjcecahoaa
