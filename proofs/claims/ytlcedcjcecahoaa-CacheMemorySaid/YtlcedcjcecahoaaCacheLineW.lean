/- The law CacheLine, walked. No condition. -/
import Derived.Test.YtlcedcjcecahoaaCache8
import Derived.StillTailTactics
import Derived.BigRegion
import Derived.Deep.RegionWith
import Derived.Deep.RegionHeld3
import Derived.Deep.RegionLaw
import Derived.Deep.QuietTactic
import Derived.BigQuiet
import Derived.Deep.LoopGhost
import Derived.Deep.DeepCutAuto
import Derived.Deep.DeepFit
import Derived.Deep.DeepMust
import Derived.Handy
set_option linter.unusedVariables false
set_option linter.unusedSimpArgs false
namespace Go.Proofs.Ytlcedcjcecahoaa
open Go.RowKit
set_option maxRecDepth 100000
theorem wpAnyH_turn {P : Program} {md : Region.Mode} {ops : Array Oper} {Q : Exit → Act → World → Prop} {S S' : World → Prop} (hS : ∀ w, S' w → S w) :
    ∀ (fuel : Nat) (listed : Array Bool) (a : Act) (w : World), wpAnyH P md ops Q S' fuel listed a w → wpAnyH P md ops Q S fuel listed a w
  | 0, _, _, _, h => h
  | fuel + 1, _, _, _, h => ⟨h.1, fun i hi => wpOp_mono (fun a' w' h' => ⟨hS _ h'.1, wpAnyH_turn hS fuel _ a' w' h'.2⟩) (h.2 i hi)⟩
theorem cell_new_at (W : World) (C : Array Value) (T : TypeId) (j : Nat) (v : Value) (h : C[j]? = some v) : (W.alloc (.cells C T)).cell? ⟨W.heap.size, j, none⟩ = some v := by
  have e : (W.alloc (.cells C T)).heap[W.heap.size]? = some (.cells C T) := by show (W.heap.push _)[W.heap.size]? = _; simp
  unfold World.cell?
  simp only [e]
  exact h
theorem cell_new_too (W : World) (C : Array Value) (T : TypeId) (j : Nat) (v : Value) (s : Nat) (hs : W.heap.size = s) (h : C[j]? = some v) : (W.alloc (.cells C T)).cell? ⟨s, j, none⟩ = some v := by
  subst hs
  exact cell_new_at W C T j v h
theorem and3 (x : Int) : ∃ t : Nat, t < 4 ∧ bits .and .i64 x 3 = (t : Int) := by
  refine ⟨(BitVec.ofInt 64 x).toNat % 4, by omega, ?_⟩
  show IntKind.i64.wrap ((BitVec.ofInt 64 x &&& BitVec.ofInt 64 3).toNat : Int) = _
  rw [BitVec.toNat_and]
  have h3 : (BitVec.ofInt 64 3).toNat = 2 ^ 2 - 1 := by decide
  rw [h3, Nat.and_two_pow_sub_one_eq_mod, IntKind.wrap_i64]
  omega
theorem size_n (x : Int) : ∃ N : Nat, Size4 N ∧ wrap64 (2 ^ min (IntKind.u64.wrap (bits .and .i64 x 3)).toNat 64) = (N : Int) := by
  obtain ⟨t, ht, e⟩ := and3 x
  rw [e]
  have : t = 0 ∨ t = 1 ∨ t = 2 ∨ t = 3 := by omega
  rcases this with rfl | rfl | rfl | rfl
  · exact ⟨1, .inl rfl, by decide +kernel⟩
  · exact ⟨2, .inr (.inl rfl), by decide +kernel⟩
  · exact ⟨4, .inr (.inr (.inl rfl)), by decide +kernel⟩
  · exact ⟨8, .inr (.inr (.inr rfl)), by decide +kernel⟩
theorem at_n (pa k : Int) (p0 : 0 ≤ pa) (p1 : pa < 18446744073709551616) {N : Nat} (hN : Size4 N) : ∃ O : Nat, O + N ≤ 64 ∧ O % N = 0 ∧ IntKind.u64.wrap (pa / 64 * 64 + IntKind.u64.wrap (wrap64 (k % 64 / (N : Int) * N))) = pa / 64 * 64 + (O : Int) := by
  have hw : ∀ y : Int, 0 ≤ y → y < 64 → wrap64 y = y := fun y h0 h1 => by unfold wrap64; omega
  have hy : 0 ≤ k % 64 / (N : Int) * N ∧ k % 64 / (N : Int) * N < 64 := by rcases hN with rfl | rfl | rfl | rfl <;> omega
  rw [hw _ hy.1 hy.2, IntKind.wrap_u64, IntKind.wrap_u64]
  rcases hN with rfl | rfl | rfl | rfl
  · exact ⟨(k % 64 / 1 * 1).toNat, by omega, by omega, by omega⟩
  · exact ⟨(k % 64 / 2 * 2).toNat, by omega, by omega, by omega⟩
  · exact ⟨(k % 64 / 4 * 4).toNat, by omega, by omega, by omega⟩
  · exact ⟨(k % 64 / 8 * 8).toNat, by omega, by omega, by omega⟩
theorem setOf_same {x y : Int} (h : x / 64 = y / 64) (n : Nat) : setOf n x = setOf n y := by unfold setOf; rw [h]
theorem isLine_same {x y : Int} (h : x / 64 = y / 64) : isLine x = isLine y := by
  funext l
  have : lbase x = lbase y := by unfold lbase; omega
  unfold isLine
  rw [this]
theorem wayI_same {x y : Int} (h : x / 64 = y / 64) (m : Nat) (L : Nat → CLine) : wayI m L x = wayI m L y := by unfold wayI; rw [isLine_same h]
theorem isLine_put2 {x : Int} {l : CLine} (at_ k v : Nat) : isLine x (putL l at_ k v) = isLine x l := rfl
/-- one line, in set s at way i; every other is empty -/
def oneL (s i : Nat) (l : CLine) : Nat → Nat → CLine := upS2 (fun _ _ => CLine.zero) s i l
theorem oneL_at (s i : Nat) (l : CLine) : oneL s i l s i = l := by unfold oneL; rw [upS2_same, upL_same]
theorem oneL_put (s i : Nat) (l l2 : CLine) : upS2 (oneL s i l) s i l2 = oneL s i l2 := upS2_2 _ s i l l2
theorem oneL_zero (s i : Nat) : oneL s i CLine.zero = fun _ _ => CLine.zero := by
  funext t j
  unfold oneL upS2 upL
  split <;> first | rfl | (show (if j = i then CLine.zero else CLine.zero) = CLine.zero; split <;> rfl)
theorem oneL_way {m s i : Nat} {l : CLine} {x : Int} (hi : i < m) (h : isLine x l = true) : wayI m (oneL s i l s) x = i := by
  unfold oneL
  rw [upS2_same]
  exact wayI_put (wayI_none fun _ _ => isLine_zero _) hi h
theorem oneL_no {m s i t : Nat} {l : CLine} {x : Int} (h : isLine x l = false) : wayI m (oneL s i l t) x = -1 := wayI_none fun j _ => by
  unfold oneL upS2 upL
  split
  · show isLine x (if j = i then l else CLine.zero) = false
    split
    · exact h
    · rfl
  · rfl
theorem isLine_next (pa : Int) (p0 : 0 ≤ pa) (p1 : pa < 18446744073709551616) (D : Nat → Int) : isLine (IntKind.u64.wrap (pa / 64 * 64 + 64)) (newL pa D) = false := by
  have : lbase pa ≠ lbase (IntKind.u64.wrap (pa / 64 * 64 + 64)) := by unfold lbase; rw [IntKind.wrap_u64]; omega
  simp [isLine, newL, this]
/-- a new cache in slot 17, and no error in slot 18 -/
def LineNew (w : World) (s17 s18 : Value) (wx : World) : Prop := ∃ n m b sb wb st, Ways m ∧ s17 = .pointer (some ⟨b, 0, none⟩) ∧ s18 = .int .i64 0 ∧ CacheIs wx b sb wb n m (fun _ _ => CLine.zero) st ∧ (∀ g, CacheOwn sb wb n g → w.heap.size ≤ g) ∧ Below w.heap.size w wx
theorem line_new {w wp : World} {n m : Nat} {e : Ending} {wx : World} (hB : Below w.heap.size w wp) (hm : Ways m) (h : NewCache wp n m e wx) : ∃ b, e = .returned (.tuple #[.pointer (some ⟨b, 0, none⟩), .int .i64 0]) ∧ LineNew w (.pointer (some ⟨b, 0, none⟩)) (.int .i64 0) wx ∧ Below wp.heap.size wp wx := by
  obtain ⟨b, sb, wb, st, rfl, hc, hb, hg, hbe⟩ := h
  exact ⟨b, rfl, ⟨n, m, b, sb, wb, st, hm, rfl, rfl, hc, fun g hgg => Nat.le_trans hB.size (hg g hgg), hB.trans (hbe.mono hB.size)⟩, hbe⟩
theorem wordN_bytesL (v : Nat) : ∀ k, wordN (fun i => v / 2 ^ (8 * i) % 256) k = v % 2 ^ (8 * k)
  | 0 => by simp [wordN, Nat.mod_one]
  | k + 1 => by
    unfold wordN
    rw [wordN_bytesL v k, show 8 * (k + 1) = 8 * k + 8 by omega, Nat.pow_add, Nat.mod_mul, show (2 : Nat) ^ 8 = 256 from rfl, Nat.mul_comm (v / 2 ^ (8 * k) % 256)]
theorem word_put (l : CLine) (O N V : Nat) : wordL (putL l O N V) O N = V % 2 ^ (8 * N) := by
  unfold wordL
  rw [← wordN_bytesL V N]
  refine wordN_congr N fun q hq => ?_
  unfold putL
  simp only
  rw [if_pos (by omega), show O + q - O = q by omega]
  omega
theorem mask_of (V X N : Nat) (hN : N < 8) (hV : (V : Int) < 18446744073709551616) (h : X = V % 2 ^ (8 * N)) : bits .and .u64 (V : Int) ((2 ^ (8 * N) - 1 : Nat) : Int) = (X : Int) := by
  subst h
  have hp : (2 : Nat) ^ (8 * N) ≤ 2 ^ 56 := Nat.pow_le_pow_right (by omega) (by omega)
  have hp0 : 0 < (2 : Nat) ^ (8 * N) := Nat.pow_pos (by omega)
  show IntKind.u64.wrap ((BitVec.ofInt 64 (V : Int) &&& BitVec.ofInt 64 ((2 ^ (8 * N) - 1 : Nat) : Int)).toNat : Int) = _
  have e2 : ∀ q : Nat, q < 2 ^ 64 → (BitVec.ofInt 64 (q : Int)).toNat = q := fun q hq => by simp; omega
  rw [BitVec.toNat_and, e2 V (by omega), e2 _ (by omega), Nat.and_two_pow_sub_one_eq_mod, IntKind.wrap_u64]
  have : V % 2 ^ (8 * N) < 2 ^ (8 * N) := Nat.mod_lt _ hp0
  omega
theorem own64_isB {w w' : World} {B g : Nat} {D : Nat → Int} (h : Own64 w B g D) (hD : ∀ i, 0 ≤ D i ∧ D i ≤ 255) (hb : Below w.heap.size w w') : IsB w' (some ⟨g, 0, none⟩) 64 (listOf D 64) := by
  obtain ⟨_, cur, h1, h2⟩ := h
  refine ⟨listOf_len _ _, fun x hx => ?_, .inr ⟨g, 0, rfl, fun i hi => ?_⟩⟩
  · simp only [listOf, List.mem_map] at hx
    obtain ⟨i, _, rfl⟩ := hx
    exact hD i
  · rw [listOf_getD _ _ _ hi, Nat.zero_add, hb.cell (p := ⟨g, i, none⟩) (blk_lt h1)]
    unfold World.cell?
    simp only [h1]
    exact h2 i hi
theorem row_isB {w w' : World} {g : Nat} {D : Nat → Int} {t : TypeId} (h : w.rowIs g t 64 (fun q => .int .u8 (D q))) (hD : ∀ i, 0 ≤ D i ∧ D i ≤ 255) (hk : w'.heap[g]? = w.heap[g]?) : IsB w' (some ⟨g, 0, none⟩) 64 (listOf D 64) := by
  refine ⟨listOf_len _ _, fun x hx => ?_, .inr ⟨g, 0, rfl, fun i hi => ?_⟩⟩
  · simp only [listOf, List.mem_map] at hx
    obtain ⟨i, _, rfl⟩ := hx
    exact hD i
  · rw [listOf_getD _ _ _ hi, Nat.zero_add, ← h.cell hi]
    unfold World.cell?
    simp only [hk]
theorem eqB_self (l : List Int) : eqB l l = true := by simp [eqB]
theorem validTo_zero (m : Nat) : ∀ s, validTo (fun _ _ => CLine.zero) m s = []
  | 0 => rfl
  | s + 1 => by
    rw [validTo_succ, validTo_zero m s]
    simp [validIn, CLine.zero]
theorem look_gone {w : World} {b sb : Nat} {wb : Nat → Nat} {n m : Nat} {st : Nat → Nat} (h : CacheIs w b sb wb n m (fun _ _ => CLine.zero) st) (x : Int) (h0 : 0 ≤ x) (h1 : x < 18446744073709551616) :
    Calls Try.prog 11 #[.pointer (some ⟨b, 0, none⟩), .int .u64 x] w fun e w' => e = .returned (.bool false) ∧ Below w.heap.size w w' := by
  have k := cache_look h x h0 h1
  rw [wayI_none fun _ _ => isLine_zero _] at k
  exact k
theorem len_gone {w : World} {b sb : Nat} {wb : Nat → Nat} {n m : Nat} {st : Nat → Nat} (h : CacheIs w b sb wb n m (fun _ _ => CLine.zero) st) :
    Calls Try.prog 15 #[.pointer (some ⟨b, 0, none⟩)] w fun e W' => e = .returned (.int .i64 0) ∧ Below w.heap.size w W' := by
  have k := cache_len h
  rw [validTo_zero] at k
  exact k
set_option maxHeartbeats 16000000 in
theorem line_walk (w : World) (sets ways seed pa v wv k size : Int) (s0 : 0 ≤ seed) (s1 : seed < 18446744073709551616) (p0 : 0 ≤ pa) (p1 : pa < 18446744073709551616) (v0 : 0 ≤ v) (v1 : v < 18446744073709551616) (x0 : 0 ≤ wv) (x1 : wv < 18446744073709551616) :
    Calls Try.prog 4 #[.int .i64 sets, .int .i64 ways, .int .u64 seed, .int .u64 pa, .int .u64 v, .int .u64 wv, .int .i64 k, .int .i64 size] w fun e w' => e = .returned (.bool true) ∧ Below w.heap.size w w' := by
  have HS := Lib.hid (And.intro s0 s1); have HPA := Lib.hid (And.intro p0 p1); have HV := Lib.hid (And.intro v0 v1); have HX := Lib.hid (And.intro x0 x1)
  have hw3 : IntKind.u64.wrap ways % 3 = 0 ∨ IntKind.u64.wrap ways % 3 = 1 ∨ IntKind.u64.wrap ways % 3 = 2 := by omega
  have hw0 : 0 ≤ IntKind.u64.wrap ways := by rw [IntKind.wrap_u64]; omega
  have hw5 : IntKind.u64.wrap sets % 5 = 0 ∨ IntKind.u64.wrap sets % 5 = 1 ∨ IntKind.u64.wrap sets % 5 = 2 ∨ IntKind.u64.wrap sets % 5 = 3 ∨ IntKind.u64.wrap sets % 5 = 4 := by omega
  have hv0 : 0 ≤ IntKind.u64.wrap sets := by rw [IntKind.wrap_u64]; omega
  clear s0 s1 p0 p1 v0 v1 x0 x1
  go_enter Try.func4, Try.ntmps4
  go_upto_region 1 with fail
  go_cut [17, 18] (fun s17 s18 wx => LineNew w s17 s18 wx)
  case first =>
    obtain ⟨j5, n, t5, hj5, hn, hA5⟩ : ∃ j n : Nat, (IntKind.u64.wrap sets).tmod 5 = (j : Int) ∧ (j : Int) < 5 ∧ Sets n ∧ (#[Value.int .i64 1, .int .i64 2, .int .i64 4, .int .i64 8, .int .i64 16] : Array Value)[j]? = some (.int .i64 (n : Nat)) := by
      rw [Int.tmod_eq_emod_of_nonneg hv0]
      rcases hw5 with h | h | h | h | h
      · exact ⟨0, 1, h, by omega, by simp [Sets], rfl⟩
      · exact ⟨1, 2, h, by omega, by simp [Sets], rfl⟩
      · exact ⟨2, 4, h, by omega, by simp [Sets], rfl⟩
      · exact ⟨3, 8, h, by omega, by simp [Sets], rfl⟩
      · exact ⟨4, 16, h, by omega, by simp [Sets], rfl⟩
    obtain ⟨j3, m, t3, hj3, hm, hA3⟩ : ∃ j n : Nat, (IntKind.u64.wrap ways).tmod 3 = (j : Int) ∧ (j : Int) < 3 ∧ Ways n ∧ (#[Value.int .i64 2, .int .i64 4, .int .i64 8] : Array Value)[j]? = some (.int .i64 (n : Nat)) := by
      rw [Int.tmod_eq_emod_of_nonneg hw0]
      rcases hw3 with h | h | h
      · exact ⟨0, 2, h, by omega, by simp [Ways], rfl⟩
      · exact ⟨1, 4, h, by omega, by simp [Ways], rfl⟩
      · exact ⟨2, 8, h, by omega, by simp [Ways], rfl⟩
    have HNEW := fun (W : World) => Lib.hid (cache_new hn hm seed HS.out.1 HS.out.2 W)
    have HM := Lib.hid hm
    have wj5 : IntKind.i64.wrap (j5 : Int) = j5 := by rw [IntKind.wrap_i64]; omega
    have wj3 : IntKind.i64.wrap (j3 : Int) = j3 := by rw [IntKind.wrap_i64]; omega
    clear hw3 hw5 hw0 hv0 hn hm
    go_wp2_with fail
    refine wp_region_held_drew (S := fun _ => True) (by kernel_rfl) trivial (fun hH => ?_)
    refine wpAnyH_take (i := 1) (oi := ⟨some 38, _, _, _, _, _⟩) (v := ?_) rfl (by kernel_rfl) (by kernel_rfl) (by kernel_rfl) (fun _ _ _ h => h) (Or.inl ⟨by kernel_rfl, ?_⟩) hH ?_
    rotate_left 1
    · intro wq hq;  first | (go_simp; done) | (go_simp; with_reducible rfl)
    simp only [Act.put, List.setIfInBounds_toArray, List.set_cons_zero, List.set_cons_succ]
    refine wpAnyH_take (i := 2) (oi := ⟨some 39, _, _, _, _, _⟩) (v := ?_) rfl (by kernel_rfl) (by kernel_rfl) (by kernel_rfl) (fun _ _ _ h => h) (Or.inl ⟨by kernel_rfl, ?_⟩) hH ?_
    rotate_left 1
    · intro wq hq;  first | (go_simp; done) | (go_simp; with_reducible rfl)
    simp only [Act.put, List.setIfInBounds_toArray, List.set_cons_zero, List.set_cons_succ]
    refine wpAnyH_take (i := 3) (oi := ⟨some 40, _, _, _, _, _⟩) (v := ?_) rfl (by kernel_rfl) (by kernel_rfl) (by kernel_rfl) (fun _ _ _ h => h) (Or.inl ⟨by kernel_rfl, ?_⟩) hH ?_
    rotate_left 1
    · intro wq hq;  first | (go_simp; done) | (go_simp; with_reducible rfl)
    simp only [Act.put, List.setIfInBounds_toArray, List.set_cons_zero, List.set_cons_succ]
    refine wpAnyH_take (i := 4) (oi := ⟨some 41, _, _, _, _, _⟩) (v := ?_) rfl (by kernel_rfl) (by kernel_rfl) (by kernel_rfl) (fun _ _ _ h => h) (Or.inl ⟨by kernel_rfl, ?_⟩) hH ?_
    rotate_left 1
    · intro wq hq;  first | (go_simp; done) | (go_simp; with_reducible rfl)
    simp only [Act.put, List.setIfInBounds_toArray, List.set_cons_zero, List.set_cons_succ]
    refine wpAnyH_take (i := 8) (oi := ⟨some 45, _, _, _, _, _⟩) (v := ?_) rfl (by kernel_rfl) (by kernel_rfl) (by kernel_rfl) (fun _ _ _ h => h) (Or.inl ⟨by kernel_rfl, ?_⟩) hH ?_
    rotate_left 1
    · intro wq hq;  first | (go_simp; done) | (go_simp; with_reducible rfl)
    simp only [Act.put, List.setIfInBounds_toArray, List.set_cons_zero, List.set_cons_succ]
    refine wpAnyH_take (i := 9) (oi := ⟨some 46, _, _, _, _, _⟩) (v := ?_) rfl (by kernel_rfl) (by kernel_rfl) (by kernel_rfl) (fun _ _ _ h => h) (Or.inl ⟨by kernel_rfl, ?_⟩) hH ?_
    rotate_left 1
    · intro wq hq;  first | (go_simp; done) | (go_simp; with_reducible rfl)
    simp only [Act.put, List.setIfInBounds_toArray, List.set_cons_zero, List.set_cons_succ]
    refine wpAnyH_take (i := 10) (oi := ⟨some 47, _, _, _, _, _⟩) (v := ?_) rfl (by kernel_rfl) (by kernel_rfl) (by kernel_rfl) (fun _ _ _ h => h) (Or.inl ⟨by kernel_rfl, ?_⟩) hH ?_
    rotate_left 1
    · intro wq hq;  first | (go_simp; done) | (go_simp; with_reducible rfl)
    simp only [Act.put, List.setIfInBounds_toArray, List.set_cons_zero, List.set_cons_succ]
    refine wpAnyH_take (i := 11) (oi := ⟨some 48, _, _, _, _, _⟩) (v := ?_) rfl (by kernel_rfl) (by kernel_rfl) (by kernel_rfl) (fun _ _ _ h => h) (Or.inl ⟨by kernel_rfl, ?_⟩) hH ?_
    rotate_left 1
    · intro wq hq;  first | (go_simp; done) | (go_simp; with_reducible rfl)
    simp only [Act.put, List.setIfInBounds_toArray, List.set_cons_zero, List.set_cons_succ]
    refine wpAnyH_take (i := 14) (oi := ⟨some 51, _, _, _, _, _⟩) (v := ?_) rfl (by kernel_rfl) (by kernel_rfl) (by kernel_rfl) (fun _ _ _ h => h) (Or.inl ⟨by kernel_rfl, ?_⟩) hH ?_
    rotate_left 1
    · intro wq hq;  first | (go_simp; done) | (go_simp; with_reducible rfl)
    simp only [Act.put, List.setIfInBounds_toArray, List.set_cons_zero, List.set_cons_succ]
    refine wpAnyH_ready (rs := [0, 7]) (by kernel_rfl) (by simp) (AllReadyH.cons (o := ⟨some 37, _, _, _, _, _⟩) rfl (fun K hK => ?_) (AllReadyH.cons (o := ⟨some 44, _, _, _, _, _⟩) rfl (fun K hK => ?_) AllReadyH.nil))
    · go_simp
      refine hK.out _ _ trivial (fun hH => ?_)
      clear hK K hH
      try simp only [Act.put, List.setIfInBounds_toArray, List.set_cons_zero, List.set_cons_succ]
      have hH : (w.drew.alloc (.cells #[.int .i64 1, .int .i64 2, .int .i64 4, .int .i64 8, .int .i64 16] 3)).cell? ⟨w.heap.size, j5, none⟩ = some (.int .i64 (n : Nat)) := cell_new_at w.drew _ _ _ _ hA5
      refine wpAnyH_turn (S' := fun wq => wq.cell? ⟨w.heap.size, j5, none⟩ = some (.int .i64 (n : Nat))) (fun _ _ => trivial) _ _ _ _ ?_
      refine wpAnyH_take (i := 5) (oi := ⟨some 42, _, _, _, _, _⟩) (v := ?_) rfl (by kernel_rfl) (by kernel_rfl) (by kernel_rfl) (fun _ _ _ h => h) (Or.inl ⟨by kernel_rfl, ?_⟩) hH ?_
      rotate_left 1
      · intro wq hq; have c0 := hq; first | (go_simp; done) | (go_simp; with_reducible rfl)
      simp only [Act.put, List.setIfInBounds_toArray, List.set_cons_zero, List.set_cons_succ]
      refine wpAnyH_take (i := 6) (oi := ⟨some 43, _, _, _, _, _⟩) (v := ?_) rfl (by kernel_rfl) (by kernel_rfl) (by kernel_rfl) (fun _ _ _ h => h) (Or.inl ⟨by kernel_rfl, ?_⟩) hH ?_
      rotate_left 1
      · intro wq hq; have c0 := hq; first | (go_simp; done) | (go_simp; with_reducible rfl)
      simp only [Act.put, List.setIfInBounds_toArray, List.set_cons_zero, List.set_cons_succ]
      refine wpAnyH_ready (rs := [7]) (by kernel_rfl) (by simp) (AllReadyH.cons (o := ⟨some 44, _, _, _, _, _⟩) rfl (fun K hK => ?_) AllReadyH.nil)
      go_simp
      refine hK.out _ _ ?_ (fun hH => ?_)
      · exact (World.cell?_alloc_lt _ _ _ (World.block_lt_of_cell? _ _ hH)).trans hH
      clear hK K
      try simp only [Act.put, List.setIfInBounds_toArray, List.set_cons_zero, List.set_cons_succ]
      have hH2 : ((w.alloc (.cells #[.int .i64 1, .int .i64 2, .int .i64 4, .int .i64 8, .int .i64 16] 3)).alloc (.cells #[.int .i64 2, .int .i64 4, .int .i64 8] 3)).drew.cell? ⟨w.heap.size + 1, j3, none⟩ = some (.int .i64 (m : Nat)) := cell_new_too (w.drew.alloc (.cells #[.int .i64 1, .int .i64 2, .int .i64 4, .int .i64 8, .int .i64 16] 3)) _ _ _ _ _ (by simp) hA3
      refine wpAnyH_turn (S' := fun wq => wq.cell? ⟨w.heap.size, j5, none⟩ = some (.int .i64 (n : Nat)) ∧ wq.cell? ⟨w.heap.size + 1, j3, none⟩ = some (.int .i64 (m : Nat))) (fun _ h => h.1) _ _ _ _ ?_
      refine wpAnyH_take (i := 12) (oi := ⟨some 49, _, _, _, _, _⟩) (v := ?_) rfl (by kernel_rfl) (by kernel_rfl) (by kernel_rfl) (fun _ _ _ h => h) (Or.inl ⟨by kernel_rfl, ?_⟩) ⟨hH, hH2⟩ ?_
      rotate_left 1
      · intro wq hq; have c0 := hq.2; first | (go_simp; done) | (go_simp; with_reducible rfl)
      simp only [Act.put, List.setIfInBounds_toArray, List.set_cons_zero, List.set_cons_succ]
      refine wpAnyH_take (i := 13) (oi := ⟨some 50, _, _, _, _, _⟩) (v := ?_) rfl (by kernel_rfl) (by kernel_rfl) (by kernel_rfl) (fun _ _ _ h => h) (Or.inl ⟨by kernel_rfl, ?_⟩) ⟨hH, hH2⟩ ?_
      rotate_left 1
      · intro wq hq; have c0 := hq.2; first | (go_simp; done) | (go_simp; with_reducible rfl)
      simp only [Act.put, List.setIfInBounds_toArray, List.set_cons_zero, List.set_cons_succ]
      have HW2 : Hid (Below w.heap.size w ((w.alloc (.cells #[.int .i64 1, .int .i64 2, .int .i64 4, .int .i64 8, .int .i64 16] 3)).alloc (.cells #[.int .i64 2, .int .i64 4, .int .i64 8] 3)).drew) := (((Below.refl w.heap.size w).alloc (Nat.le_refl _) _).alloc (by simp) _).drew
      have HH := Lib.hid (And.intro hH hH2)
      clear hH hH2
      generalize ((w.alloc (.cells #[.int .i64 1, .int .i64 2, .int .i64 4, .int .i64 8, .int .i64 16] 3)).alloc (.cells #[.int .i64 2, .int .i64 4, .int .i64 8] 3)).drew = wp at *
      refine wpAnyH_ready (rs := [15]) (by kernel_rfl) (by simp) (AllReadyH.cons (o := ⟨some 52, _, _, _, _, _⟩) rfl (fun K hK => ?_) AllReadyH.nil)
      go_simp
      refine (HNEW wp).out.mono ?_
      rintro e wx hz
      obtain ⟨b, rfl, hln, hbx⟩ := line_new HW2.out HM.out hz
      have HLN := Lib.hid hln
      have HBX := Lib.hid hbx
      clear hz hln hbx
      go_wp2_with fail
      refine hK.out _ _ ⟨(HBX.out.cell (World.block_lt_of_cell? _ _ HH.out.1)).trans HH.out.1, (HBX.out.cell (World.block_lt_of_cell? _ _ HH.out.2)).trans HH.out.2⟩ (fun hH => ?_)
      clear hK K
      try simp only [Act.put, List.setIfInBounds_toArray, List.set_cons_zero, List.set_cons_succ]
      refine wpAnyH_take (i := 16) (oi := ⟨some 36, _, _, _, _, _⟩) (v := ?_) rfl (by kernel_rfl) (by kernel_rfl) (by kernel_rfl) (fun _ _ _ h => h) (Or.inl ⟨by kernel_rfl, ?_⟩) hH ?_
      rotate_left 1
      · intro wq hq;  first | (go_simp; done) | (go_simp; with_reducible rfl)
      simp only [Act.put, List.setIfInBounds_toArray, List.set_cons_zero, List.set_cons_succ]
      refine wpAnyH_take (i := 17) (oi := ⟨some 53, _, _, _, _, _⟩) (v := ?_) rfl (by kernel_rfl) (by kernel_rfl) (by kernel_rfl) (fun _ _ _ h => h) (Or.inl ⟨by kernel_rfl, ?_⟩) hH ?_
      rotate_left 1
      · intro wq hq;  first | (go_simp; done) | (go_simp; with_reducible rfl)
      simp only [Act.put, List.setIfInBounds_toArray, List.set_cons_zero, List.set_cons_succ]
      refine wpAnyH_take (i := 18) (oi := ⟨some 54, _, _, _, _, _⟩) (v := ?_) rfl (by kernel_rfl) (by kernel_rfl) (by kernel_rfl) (fun _ _ _ h => h) (Or.inl ⟨by kernel_rfl, ?_⟩) hH ?_
      rotate_left 1
      · intro wq hq;  first | (go_simp; done) | (go_simp; with_reducible rfl)
      simp only [Act.put, List.setIfInBounds_toArray, List.set_cons_zero, List.set_cons_succ]
      refine wpAnyH_take (i := 19) (oi := ⟨some 17, _, _, _, _, _⟩) (v := ?_) rfl (by kernel_rfl) (by kernel_rfl) (by kernel_rfl) (fun _ _ _ h => h) (Or.inl ⟨by kernel_rfl, ?_⟩) hH ?_
      rotate_left 1
      · intro wq hq;  first | (go_simp; done) | (go_simp; with_reducible rfl)
      simp only [Act.put, List.setIfInBounds_toArray, List.set_cons_zero, List.set_cons_succ]
      refine wpAnyH_take (i := 20) (oi := ⟨some 18, _, _, _, _, _⟩) (v := ?_) rfl (by kernel_rfl) (by kernel_rfl) (by kernel_rfl) (fun _ _ _ h => h) (Or.inl ⟨by kernel_rfl, ?_⟩) hH ?_
      rotate_left 1
      · intro wq hq;  first | (go_simp; done) | (go_simp; with_reducible rfl)
      simp only [Act.put, List.setIfInBounds_toArray, List.set_cons_zero, List.set_cons_succ]
      refine wpAnyH_done (by kernel_rfl) ?_ _
      go_wp2_with fail
      go_meet
      exact HLN.out
    · go_simp
      refine hK.out _ _ trivial (fun hH => ?_)
      clear hK K hH
      try simp only [Act.put, List.setIfInBounds_toArray, List.set_cons_zero, List.set_cons_succ]
      have hH : (w.drew.alloc (.cells #[.int .i64 2, .int .i64 4, .int .i64 8] 3)).cell? ⟨w.heap.size, j3, none⟩ = some (.int .i64 (m : Nat)) := cell_new_at w.drew _ _ _ _ hA3
      refine wpAnyH_turn (S' := fun wq => wq.cell? ⟨w.heap.size, j3, none⟩ = some (.int .i64 (m : Nat))) (fun _ _ => trivial) _ _ _ _ ?_
      refine wpAnyH_take (i := 12) (oi := ⟨some 49, _, _, _, _, _⟩) (v := ?_) rfl (by kernel_rfl) (by kernel_rfl) (by kernel_rfl) (fun _ _ _ h => h) (Or.inl ⟨by kernel_rfl, ?_⟩) hH ?_
      rotate_left 1
      · intro wq hq; have c0 := hq; first | (go_simp; done) | (go_simp; with_reducible rfl)
      simp only [Act.put, List.setIfInBounds_toArray, List.set_cons_zero, List.set_cons_succ]
      refine wpAnyH_take (i := 13) (oi := ⟨some 50, _, _, _, _, _⟩) (v := ?_) rfl (by kernel_rfl) (by kernel_rfl) (by kernel_rfl) (fun _ _ _ h => h) (Or.inl ⟨by kernel_rfl, ?_⟩) hH ?_
      rotate_left 1
      · intro wq hq; have c0 := hq; first | (go_simp; done) | (go_simp; with_reducible rfl)
      simp only [Act.put, List.setIfInBounds_toArray, List.set_cons_zero, List.set_cons_succ]
      refine wpAnyH_ready (rs := [0]) (by kernel_rfl) (by simp) (AllReadyH.cons (o := ⟨some 37, _, _, _, _, _⟩) rfl (fun K hK => ?_) AllReadyH.nil)
      go_simp
      refine hK.out _ _ ?_ (fun hH => ?_)
      · exact (World.cell?_alloc_lt _ _ _ (World.block_lt_of_cell? _ _ hH)).trans hH
      clear hK K
      try simp only [Act.put, List.setIfInBounds_toArray, List.set_cons_zero, List.set_cons_succ]
      have hH2 : ((w.alloc (.cells #[.int .i64 2, .int .i64 4, .int .i64 8] 3)).alloc (.cells #[.int .i64 1, .int .i64 2, .int .i64 4, .int .i64 8, .int .i64 16] 3)).drew.cell? ⟨w.heap.size + 1, j5, none⟩ = some (.int .i64 (n : Nat)) := cell_new_too (w.drew.alloc (.cells #[.int .i64 2, .int .i64 4, .int .i64 8] 3)) _ _ _ _ _ (by simp) hA5
      refine wpAnyH_turn (S' := fun wq => wq.cell? ⟨w.heap.size, j3, none⟩ = some (.int .i64 (m : Nat)) ∧ wq.cell? ⟨w.heap.size + 1, j5, none⟩ = some (.int .i64 (n : Nat))) (fun _ h => h.1) _ _ _ _ ?_
      refine wpAnyH_take (i := 5) (oi := ⟨some 42, _, _, _, _, _⟩) (v := ?_) rfl (by kernel_rfl) (by kernel_rfl) (by kernel_rfl) (fun _ _ _ h => h) (Or.inl ⟨by kernel_rfl, ?_⟩) ⟨hH, hH2⟩ ?_
      rotate_left 1
      · intro wq hq; have c0 := hq.2; first | (go_simp; done) | (go_simp; with_reducible rfl)
      simp only [Act.put, List.setIfInBounds_toArray, List.set_cons_zero, List.set_cons_succ]
      refine wpAnyH_take (i := 6) (oi := ⟨some 43, _, _, _, _, _⟩) (v := ?_) rfl (by kernel_rfl) (by kernel_rfl) (by kernel_rfl) (fun _ _ _ h => h) (Or.inl ⟨by kernel_rfl, ?_⟩) ⟨hH, hH2⟩ ?_
      rotate_left 1
      · intro wq hq; have c0 := hq.2; first | (go_simp; done) | (go_simp; with_reducible rfl)
      simp only [Act.put, List.setIfInBounds_toArray, List.set_cons_zero, List.set_cons_succ]
      have HW2 : Hid (Below w.heap.size w ((w.alloc (.cells #[.int .i64 2, .int .i64 4, .int .i64 8] 3)).alloc (.cells #[.int .i64 1, .int .i64 2, .int .i64 4, .int .i64 8, .int .i64 16] 3)).drew) := (((Below.refl w.heap.size w).alloc (Nat.le_refl _) _).alloc (by simp) _).drew
      have HH := Lib.hid (And.intro hH hH2)
      clear hH hH2
      generalize ((w.alloc (.cells #[.int .i64 2, .int .i64 4, .int .i64 8] 3)).alloc (.cells #[.int .i64 1, .int .i64 2, .int .i64 4, .int .i64 8, .int .i64 16] 3)).drew = wp at *
      refine wpAnyH_ready (rs := [15]) (by kernel_rfl) (by simp) (AllReadyH.cons (o := ⟨some 52, _, _, _, _, _⟩) rfl (fun K hK => ?_) AllReadyH.nil)
      go_simp
      refine (HNEW wp).out.mono ?_
      rintro e wx hz
      obtain ⟨b, rfl, hln, hbx⟩ := line_new HW2.out HM.out hz
      have HLN := Lib.hid hln
      have HBX := Lib.hid hbx
      clear hz hln hbx
      go_wp2_with fail
      refine hK.out _ _ ⟨(HBX.out.cell (World.block_lt_of_cell? _ _ HH.out.1)).trans HH.out.1, (HBX.out.cell (World.block_lt_of_cell? _ _ HH.out.2)).trans HH.out.2⟩ (fun hH => ?_)
      clear hK K
      try simp only [Act.put, List.setIfInBounds_toArray, List.set_cons_zero, List.set_cons_succ]
      refine wpAnyH_take (i := 16) (oi := ⟨some 36, _, _, _, _, _⟩) (v := ?_) rfl (by kernel_rfl) (by kernel_rfl) (by kernel_rfl) (fun _ _ _ h => h) (Or.inl ⟨by kernel_rfl, ?_⟩) hH ?_
      rotate_left 1
      · intro wq hq;  first | (go_simp; done) | (go_simp; with_reducible rfl)
      simp only [Act.put, List.setIfInBounds_toArray, List.set_cons_zero, List.set_cons_succ]
      refine wpAnyH_take (i := 17) (oi := ⟨some 53, _, _, _, _, _⟩) (v := ?_) rfl (by kernel_rfl) (by kernel_rfl) (by kernel_rfl) (fun _ _ _ h => h) (Or.inl ⟨by kernel_rfl, ?_⟩) hH ?_
      rotate_left 1
      · intro wq hq;  first | (go_simp; done) | (go_simp; with_reducible rfl)
      simp only [Act.put, List.setIfInBounds_toArray, List.set_cons_zero, List.set_cons_succ]
      refine wpAnyH_take (i := 18) (oi := ⟨some 54, _, _, _, _, _⟩) (v := ?_) rfl (by kernel_rfl) (by kernel_rfl) (by kernel_rfl) (fun _ _ _ h => h) (Or.inl ⟨by kernel_rfl, ?_⟩) hH ?_
      rotate_left 1
      · intro wq hq;  first | (go_simp; done) | (go_simp; with_reducible rfl)
      simp only [Act.put, List.setIfInBounds_toArray, List.set_cons_zero, List.set_cons_succ]
      refine wpAnyH_take (i := 19) (oi := ⟨some 17, _, _, _, _, _⟩) (v := ?_) rfl (by kernel_rfl) (by kernel_rfl) (by kernel_rfl) (fun _ _ _ h => h) (Or.inl ⟨by kernel_rfl, ?_⟩) hH ?_
      rotate_left 1
      · intro wq hq;  first | (go_simp; done) | (go_simp; with_reducible rfl)
      simp only [Act.put, List.setIfInBounds_toArray, List.set_cons_zero, List.set_cons_succ]
      refine wpAnyH_take (i := 20) (oi := ⟨some 18, _, _, _, _, _⟩) (v := ?_) rfl (by kernel_rfl) (by kernel_rfl) (by kernel_rfl) (fun _ _ _ h => h) (Or.inl ⟨by kernel_rfl, ?_⟩) hH ?_
      rotate_left 1
      · intro wq hq;  first | (go_simp; done) | (go_simp; with_reducible rfl)
      simp only [Act.put, List.setIfInBounds_toArray, List.set_cons_zero, List.set_cons_succ]
      refine wpAnyH_done (by kernel_rfl) ?_ _
      go_wp2_with fail
      go_meet
      exact HLN.out
  case rest =>
    obtain ⟨n, m, b, sb, wb, st, hm, rfl, rfl, hc, hg, hbe⟩ := hcut
    generalize wc = w1 at *
    have HM := Lib.hid hm; have HC := Lib.hid hc; have HG := Lib.hid hg; have HBE := Lib.hid hbe
    clear hm hc hg hbe hw3 hw5 hw0 hv0
    go_wp2_with fail
    refine (cache_awake w1).mono ?_
    rintro e w2 ⟨rfl, hb2⟩
    have HC2 := Lib.hid (HC.out.below hb2); have HBE2 := Lib.hid (HBE.out.trans (hb2.mono HBE.out.size))
    clear hb2 HC HBE
    go_upto_region 5 with fail
    have hbase : IntKind.u64.wrap (pa - pa.tmod 64) = pa / 64 * 64 := by
      have := HPA.out
      rw [Int.tmod_eq_emod_of_nonneg this.1, IntKind.wrap_u64]
      omega
    rw [hbase]
    clear hbase
    go_upto_region 6 with fail
    obtain ⟨N, hN, eN⟩ := size_n size
    rw [eN]
    clear eN
    have hN0 : (N : Int) ≠ 0 := by rcases hN with rfl | rfl | rfl | rfl <;> decide
    have hk0 : 0 ≤ IntKind.u64.wrap k := by rw [IntKind.wrap_u64]; omega
    go_upto_region 7 with fail
    obtain ⟨O, hO, hON, eO⟩ := at_n pa (IntKind.u64.wrap k) HPA.out.1 HPA.out.2 hN
    rw [eO]
    have HN := Lib.hid hN; have HO := Lib.hid (And.intro hO hON)
    clear eO hN0 hk0 hN hO hON
    go_wp2_with fail
    refine (law_line v HV.out.1 HV.out.2 w2).mono ?_
    rintro e w3 ⟨rfl, hr3, hb3⟩
    have HC3 := Lib.hid (HC2.out.below hb3)
    have HBE3 := Lib.hid (HBE2.out.trans (hb3.mono HBE2.out.size))
    have HAP : Hid (¬ CacheOwn sb wb n w2.heap.size) := fun e => by have := HC2.out.lt.2 _ e; omega
    have HFI := Lib.hid (fill_ok HC3.out pa HPA.out.1 HPA.out.2 (wayI_none fun _ _ => isLine_zero _) w2.heap.size 0 64 (lineD v) (lineD_bd v) (row_isRow hr3) HAP.out)
    clear hr3 hb3
    go_wp2_with fail
    refine HFI.out.mono ?_
    rintro e w4 hf
    obtain ⟨hc4, ht4, hr4⟩ := hf
    have hi := fillWay_lt HM.out (fun _ => CLine.zero) (st (setOf n pa))
    have HBE4 : Hid (Below w.heap.size w w4) := HBE3.out.trans (ht4.below HBE3.out.size HG.out)
    have HI := Lib.hid hi
    have hcx : CacheIs w4 b sb wb n m (oneL (setOf n pa) (fillWay m (fun _ => CLine.zero) (st (setOf n pa))) (newL pa (lineD v))) (upS st (setOf n pa) (touched m (st (setOf n pa)) (fillWay m (fun _ => CLine.zero) (st (setOf n pa))))) := hc4
    have HC4 := Lib.hid hcx
    obtain rfl : e = .returned (.tuple #[.int .u64 0, .slice none 0 0, .bool false, .int .i64 0]) := by
      rcases hr4 with ⟨_, h⟩ | ⟨h, _⟩
      · exact h
      · cases h
    clear hi hc4 hcx ht4 hr4 HFI HAP HC3 HC2 HBE2 HBE3
    generalize fillWay m (fun _ => CLine.zero) (st (setOf n pa)) = i at *
    generalize upS st (setOf n pa) (touched m (st (setOf n pa)) i) = st4 at *
    have q1 : (pa / 64 * 64) / 64 = pa / 64 := by omega
    have q2 : (pa / 64 * 64 + 63) / 64 = pa / 64 := by omega
    have q3 : 0 ≤ pa / 64 * 64 ∧ pa / 64 * 64 + 63 < 18446744073709551616 := by have := HPA.out; omega
    have HL1 : Hid (∀ x, x / 64 = pa / 64 → 0 ≤ x → x < 18446744073709551616 → ∀ W, CacheIs W b sb wb n m (oneL (setOf n pa) i (newL pa (lineD v))) st4 → Calls Try.prog 11 #[.pointer (some ⟨b, 0, none⟩), .int .u64 x] W fun e w' => e = .returned (.bool true) ∧ Below W.heap.size W w') := fun x e x0 x1 W hW => by
      have h := cache_look hW x x0 x1
      rw [setOf_same e, wayI_same e, oneL_way HI.out (isLine_new _ _), decide_eq_true (Int.natCast_nonneg _)] at h
      exact h
    have HL3 : Hid (∀ W, CacheIs W b sb wb n m (oneL (setOf n pa) i (newL pa (lineD v))) st4 → Calls Try.prog 11 #[.pointer (some ⟨b, 0, none⟩), .int .u64 (IntKind.u64.wrap (pa / 64 * 64 + 64))] W fun e w' => e = .returned (.bool false) ∧ Below W.heap.size W w') := fun W hW => by
      have h := cache_look hW (IntKind.u64.wrap (pa / 64 * 64 + 64)) (by rw [IntKind.wrap_u64]; omega) (by rw [IntKind.wrap_u64]; omega)
      rw [oneL_no (isLine_next pa HPA.out.1 HPA.out.2 _)] at h
      exact h
    have HK1 := Lib.hid (HL1.out _ q1 q3.1 (by omega))
    have HK2 := Lib.hid (HL1.out _ q2 (by omega) q3.2)
    have w63 : IntKind.u64.wrap (pa / 64 * 64 + 63) = pa / 64 * 64 + 63 := by rw [IntKind.wrap_u64]; omega
    clear q1 q2 q3 HL1
    go_wp2_with fail
    refine (HK1.out w4 HC4.out).mono ?_
    rintro e w5 ⟨rfl, hb5⟩
    have HC5 := Lib.hid (HC4.out.below hb5)
    have HBE5 := Lib.hid (HBE4.out.trans (hb5.mono HBE4.out.size))
    clear hb5 HC4 HBE4
    go_wp2_with fail
    refine (HK2.out w5 HC5.out).mono ?_
    rintro e w6 ⟨rfl, hb6⟩
    have HC6 := Lib.hid (HC5.out.below hb6)
    have HBE6 := Lib.hid (HBE5.out.trans (hb6.mono HBE5.out.size))
    clear hb6 HC5 HBE5
    go_wp2_with fail
    refine (HL3.out w6 HC6.out).mono ?_
    rintro e w7 ⟨rfl, hb7⟩
    have HC7 := Lib.hid (HC6.out.below hb7)
    have HBE7 := Lib.hid (HBE6.out.trans (hb7.mono HBE6.out.size))
    clear hb7 HC6 HBE6 HK1 HK2 HL3 w63
    have HCL := Lib.hid (fun (W : World) (hW : CacheIs W b sb wb n m (oneL (setOf n pa) i (newL pa (lineD v))) st4) => clean_clean hW pa HPA.out.1 HPA.out.2 i (oneL_way HI.out (isLine_new _ _)) HI.out (by rw [oneL_at]; rfl))
    go_wp2_with fail
    refine (HCL.out w7 HC7.out).mono ?_
    rintro e w8 ⟨rfl, hb8⟩
    have HC8 := Lib.hid (HC7.out.below hb8)
    have HBE8 := Lib.hid (HBE7.out.trans (hb8.mono HBE7.out.size))
    clear hb8 HC7 HBE7 HCL
    obtain ⟨V, rfl⟩ := Int.eq_ofNat_of_zero_le HX.out.1
    have a1 : (pa / 64 * 64 + (O : Int)) / 64 = pa / 64 := by have := HO.out; rcases HN.out with h | h | h | h <;> omega
    have a2 : ((pa / 64 * 64 + (O : Int)) % 64).toNat = O := by have := HO.out; rcases HN.out with h | h | h | h <;> omega
    have a3 : 0 ≤ pa / 64 * 64 + (O : Int) ∧ pa / 64 * 64 + (O : Int) < 18446744073709551616 := by have := HO.out; have := HPA.out; rcases HN.out with h | h | h | h <;> omega
    have a4 : (pa / 64 * 64 + (O : Int)) % (N : Int) = 0 := by have := HO.out; rcases HN.out with h | h | h | h <;> subst h <;> omega
    have HWR := Lib.hid (write_ok HC8.out (pa / 64 * 64 + (O : Int)) a3.1 a3.2 N HN.out a4 i (by rw [setOf_same a1, wayI_same a1]; exact oneL_way HI.out (isLine_new _ _)) HI.out V)
    have HA := Lib.hid (And.intro (And.intro a1 a2) (And.intro a3 a4))
    clear a1 a2 a3 a4
    go_wp2_with fail
    refine HWR.out.mono ?_
    rintro e w9 ⟨rfl, hc9, ht9⟩
    rw [setOf_same HA.out.1.1, HA.out.1.2, oneL_at, oneL_put] at hc9
    have HC9 := Lib.hid hc9
    have HBE9 : Hid (Below w.heap.size w w9) := HBE8.out.trans (ht9.below HBE8.out.size HG.out)
    clear hc9 ht9 HC8 HBE8 HWR
    generalize upS st4 _ _ = st9 at *
    have HRD := Lib.hid (read_ok HC9.out (pa / 64 * 64 + (O : Int)) HA.out.2.1.1 HA.out.2.1.2 N HN.out HA.out.2.2 i (by rw [setOf_same HA.out.1.1, wayI_same HA.out.1.1]; exact oneL_way HI.out (by rw [isLine_put2]; exact isLine_new _ _)) HI.out)
    go_wp2_with fail
    refine HRD.out.mono ?_
    rintro e w10 ⟨rfl, hc10, ht10⟩
    rw [setOf_same HA.out.1.1] at hc10 ⊢
    rw [HA.out.1.2, oneL_at]
    have HC10 := Lib.hid hc10
    have HBE10 : Hid (Below w.heap.size w w10) := HBE9.out.trans (ht10.below HBE9.out.size HG.out)
    clear hc10 ht10 HC9 HBE9 HRD
    generalize upS st9 _ _ = st10 at *
    have hX0 := word_put (newL pa (lineD v)) O N V
    generalize wordL (putL (newL pa (lineD v)) O N V) O N = X at *
    have HXE := Lib.hid hX0
    clear hX0
    go_wp2_with fail
    refine (law_line v HV.out.1 HV.out.2 w10).mono ?_
    rintro e w11 ⟨rfl, hr11, hb11⟩
    have HR11 := Lib.hid hr11
    have HNT : Hid (0 ≤ (newL pa (lineD v)).tag ∧ (newL pa (lineD v)).tag < 18446744073709551616) := by have := HPA.out; refine ⟨?_, ?_⟩ <;> (show _ <;> unfold newL lbase <;> simp only <;> omega)
    have HC11 := Lib.hid (HC10.out.below hb11)
    have HBE11 := Lib.hid (HBE10.out.trans (hb11.mono HBE10.out.size))
    clear hr11
    have HB0 : Hid (w11.rowIs w10.heap.size 5 64 (fun q => .int .u8 ((putL (newL pa (lineD v)) O 0 V).data q)) ∧ Below w10.heap.size w10 w11) := by
      refine ⟨HR11.out.congr fun q _ => ?_, hb11⟩
      unfold putL newL
      simp only
      rw [if_neg (by omega)]
    clear hb11
    go_wp2_with fail
    go_loopw [31] (fun ix wr => ∃ j : Nat, j ≤ N ∧ ix = .int .i64 j ∧ wr.rowIs w10.heap.size 5 64 (fun q => .int .u8 ((putL (newL pa (lineD v)) O j V).data q)) ∧ Below w10.heap.size w10 wr) (fun ix _ => 8 - (intOf ix).toNat)
    case atStart => exact ⟨0, by omega, rfl, HB0.out.1, HB0.out.2⟩
    case round =>
      obtain ⟨j, hj, rfl, hr, hbr⟩ := hrel
      have HR := Lib.hid hr; have HBR := Lib.hid hbr
      clear hr hbr
      by_cases hlt : (j : Int) < N
      · go_upto_region 18 with fail
        have i1 : IntKind.u64.wrap (pa / 64 * 64 + (O : Int) - pa / 64 * 64) = O := by have := HO.out; rw [IntKind.wrap_u64]; omega
        have i2 : wrap64 (O : Int) = O := by have := HO.out; unfold wrap64; omega
        have i3 : wrap64 ((O : Int) + j) = (O : Int) + j := by have := HO.out; unfold wrap64; omega
        have i4 : (O : Int) + j < 64 := by have := HO.out; omega
        have i5 : 0 ≤ (O : Int) + j := by omega
        have c0 : wr.cell? ⟨w10.heap.size, O + j, none⟩ = some (.int .u8 ((putL (newL pa (lineD v)) O j V).data (O + j))) := HR.out.cell (by omega)
        have f0 : wr.frozen? ⟨w10.heap.size, O + j, none⟩ = false := HR.out.frozen _
        have s1 : wrap64 (8 * (j : Int)) = 8 * j := by have := HO.out; unfold wrap64; omega
        have s2 : IntKind.u64.wrap (8 * (j : Int)) = 8 * j := by have := HO.out; rw [IntKind.wrap_u64]; omega
        have s3 : 8 * (j : Int) < 64 := by rcases HN.out with h | h | h | h <;> omega
        have s4 : 0 ≤ 8 * (j : Int) := by omega
        have s5 : min (8 * (j : Int)).toNat 64 = 8 * j := by omega
        go_wp2_with fail
        have hN8 : N ≤ 8 := by rcases HN.out with h | h | h | h <;> omega
        refine ⟨⟨j + 1, by omega, by rw [Int.natCast_succ], (HR.out.set (O + j) _).congr fun q hq => ?_, HBR.out.setCell (Nat.le_refl _) _⟩, by simp [intOf]; omega⟩
        by_cases hq2 : q = O + j
        · subst hq2
          simp [putL, show O + j - O = j by omega]
        · rw [if_neg hq2]
          unfold putL
          simp only
          by_cases hq3 : O ≤ q ∧ q < O + j
          · rw [if_pos hq3, if_pos (by omega)]
          · rw [if_neg hq3, if_neg (by omega)]
      · obtain rfl : j = N := by omega
        have HCX := Lib.hid (HC10.out.below HBR.out)
        have HBX : Hid (Below w.heap.size w wr) := HBE10.out.trans (HBR.out.mono HBE10.out.size)
        have HD1 := Lib.hid (clean_dirty HCX.out pa HPA.out.1 HPA.out.2 i (oneL_way HI.out (by rw [isLine_put2]; exact isLine_new _ _)) HI.out (by rw [oneL_at]; rfl))
        go_wp2_with fail
        refine HD1.out.mono ?_
        rintro e w12 hcl
        obtain ⟨hc12, ht12, g, cp, rfl, hown⟩ := hcl
        rw [oneL_at, oneL_put] at hc12
        rw [oneL_at] at hown
        have HC12 := Lib.hid hc12
        have HBE12 : Hid (Below w.heap.size w w12) := HBX.out.trans (ht12.below HBX.out.size HG.out)
        have HOWN := Lib.hid hown
        have HD2 := Lib.hid (clean_clean HC12.out pa HPA.out.1 HPA.out.2 i (oneL_way HI.out (by exact (isLine_new pa (lineD v) : isLine pa (newL pa (lineD v)) = true))) HI.out (by rw [oneL_at]; rfl))
        go_wp2_with fail
        refine HD2.out.mono ?_
        rintro e w13 ⟨rfl, hb13⟩
        have HC13 := Lib.hid (HC12.out.below hb13)
        have HBE13 := Lib.hid (HBE12.out.trans (hb13.mono HBE12.out.size))
        go_upto_region 21 with fail
        have hpd : ∀ q, 0 ≤ (putL (newL pa (lineD v)) O j V).data q ∧ (putL (newL pa (lineD v)) O j V).data q ≤ 255 := (putL_ok ⟨HNT.out, fun q => lineD_bd v q⟩ _ _ _).data
        have HB1 := Lib.hid (own64_isB HOWN.out hpd hb13)
        have HB2 := Lib.hid (row_isB (w' := w13) HR.out hpd (by
          have e1 := HR.out.lt
          have e2 := ht12.block w10.heap.size e1 (fun hS => by have := HC10.out.lt.2 _ hS; omega)
          rw [← e2]
          exact hb13.block _ (Nat.lt_of_lt_of_le e1 ht12.size)))
        have HWY : Hid (wayI m (oneL (setOf n pa) i (cleanL (putL (newL pa (lineD v)) O j V)) (setOf n pa)) pa = i) := oneL_way HI.out (by exact (isLine_new pa (lineD v) : isLine pa (newL pa (lineD v)) = true))
        clear hb13 hlt hj HD1 HD2 hc12 ht12 hown hpd
        rcases HN.out with h | h | h | h
        all_goals subst h
        · have hm1 : bits .and .u64 (V : Int) 255 = (X : Int) := mask_of V X 1 (by omega) HX.out.2 HXE.out
          go_wp2_with fail
          refine (same_bytes _ _ _ _ _ _ _ _ w13 HB1.out HB2.out).mono ?_
          rintro e w14 ⟨rfl, rfl⟩
          rw [eqB_self]
          go_wp2_with fail
          refine (drop_ok HC13.out pa HPA.out.1 HPA.out.2 i HWY.out HI.out).mono ?_
          rintro e w15 ⟨rfl, hc15, ht15⟩
          rw [oneL_put, oneL_zero] at hc15
          have HC15 := Lib.hid hc15
          have HBE15 : Hid (Below w.heap.size w w15) := HBE13.out.trans (ht15.below HBE13.out.size HG.out)
          clear hc15 ht15
          go_wp2_with fail
          refine (drop_no HC15.out pa HPA.out.1 HPA.out.2 (by rw [wayI_none fun _ _ => isLine_zero _]; omega)).mono ?_
          rintro e w16 ⟨rfl, hb16⟩
          have HC16 := Lib.hid (HC15.out.below hb16)
          have HBE16 := Lib.hid (HBE15.out.trans (hb16.mono HBE15.out.size))
          clear hb16
          have HLK := Lib.hid (look_gone HC16.out pa HPA.out.1 HPA.out.2)
          go_wp2_with fail
          refine HLK.out.mono ?_
          rintro e w17 ⟨rfl, hb17⟩
          have HC17 := Lib.hid (HC16.out.below hb17)
          have HBE17 := Lib.hid (HBE16.out.trans (hb17.mono HBE16.out.size))
          clear hb17
          have HLE := Lib.hid (len_gone HC17.out)
          go_wp2_with fail
          refine HLE.out.mono ?_
          rintro e w18 ⟨rfl, hb18⟩
          have HBE18 := Lib.hid (HBE17.out.trans (hb18.mono HBE17.out.size))
          clear hb18
          go_wp2
          go_ret
          exact ⟨rfl, HBE18.out⟩
        · have hm1 : bits .and .u64 (V : Int) 65535 = (X : Int) := mask_of V X 2 (by omega) HX.out.2 HXE.out
          go_wp2_with fail
          refine (same_bytes _ _ _ _ _ _ _ _ w13 HB1.out HB2.out).mono ?_
          rintro e w14 ⟨rfl, rfl⟩
          rw [eqB_self]
          go_wp2_with fail
          refine (drop_ok HC13.out pa HPA.out.1 HPA.out.2 i HWY.out HI.out).mono ?_
          rintro e w15 ⟨rfl, hc15, ht15⟩
          rw [oneL_put, oneL_zero] at hc15
          have HC15 := Lib.hid hc15
          have HBE15 : Hid (Below w.heap.size w w15) := HBE13.out.trans (ht15.below HBE13.out.size HG.out)
          clear hc15 ht15
          go_wp2_with fail
          refine (drop_no HC15.out pa HPA.out.1 HPA.out.2 (by rw [wayI_none fun _ _ => isLine_zero _]; omega)).mono ?_
          rintro e w16 ⟨rfl, hb16⟩
          have HC16 := Lib.hid (HC15.out.below hb16)
          have HBE16 := Lib.hid (HBE15.out.trans (hb16.mono HBE15.out.size))
          clear hb16
          have HLK := Lib.hid (look_gone HC16.out pa HPA.out.1 HPA.out.2)
          go_wp2_with fail
          refine HLK.out.mono ?_
          rintro e w17 ⟨rfl, hb17⟩
          have HC17 := Lib.hid (HC16.out.below hb17)
          have HBE17 := Lib.hid (HBE16.out.trans (hb17.mono HBE16.out.size))
          clear hb17
          have HLE := Lib.hid (len_gone HC17.out)
          go_wp2_with fail
          refine HLE.out.mono ?_
          rintro e w18 ⟨rfl, hb18⟩
          have HBE18 := Lib.hid (HBE17.out.trans (hb18.mono HBE17.out.size))
          clear hb18
          go_wp2
          go_ret
          exact ⟨rfl, HBE18.out⟩
        · have hm1 : bits .and .u64 (V : Int) 4294967295 = (X : Int) := mask_of V X 4 (by omega) HX.out.2 HXE.out
          go_wp2_with fail
          refine (same_bytes _ _ _ _ _ _ _ _ w13 HB1.out HB2.out).mono ?_
          rintro e w14 ⟨rfl, rfl⟩
          rw [eqB_self]
          go_wp2_with fail
          refine (drop_ok HC13.out pa HPA.out.1 HPA.out.2 i HWY.out HI.out).mono ?_
          rintro e w15 ⟨rfl, hc15, ht15⟩
          rw [oneL_put, oneL_zero] at hc15
          have HC15 := Lib.hid hc15
          have HBE15 : Hid (Below w.heap.size w w15) := HBE13.out.trans (ht15.below HBE13.out.size HG.out)
          clear hc15 ht15
          go_wp2_with fail
          refine (drop_no HC15.out pa HPA.out.1 HPA.out.2 (by rw [wayI_none fun _ _ => isLine_zero _]; omega)).mono ?_
          rintro e w16 ⟨rfl, hb16⟩
          have HC16 := Lib.hid (HC15.out.below hb16)
          have HBE16 := Lib.hid (HBE15.out.trans (hb16.mono HBE15.out.size))
          clear hb16
          have HLK := Lib.hid (look_gone HC16.out pa HPA.out.1 HPA.out.2)
          go_wp2_with fail
          refine HLK.out.mono ?_
          rintro e w17 ⟨rfl, hb17⟩
          have HC17 := Lib.hid (HC16.out.below hb17)
          have HBE17 := Lib.hid (HBE16.out.trans (hb17.mono HBE16.out.size))
          clear hb17
          have HLE := Lib.hid (len_gone HC17.out)
          go_wp2_with fail
          refine HLE.out.mono ?_
          rintro e w18 ⟨rfl, hb18⟩
          have HBE18 := Lib.hid (HBE17.out.trans (hb18.mono HBE17.out.size))
          clear hb18
          go_wp2
          go_ret
          exact ⟨rfl, HBE18.out⟩
        · obtain rfl : X = V := by
            have h1 := HXE.out
            have h2 := HX.out
            rw [Nat.mod_eq_of_lt (by omega)] at h1
            exact h1
          go_wp2_with fail
          refine (same_bytes _ _ _ _ _ _ _ _ w13 HB1.out HB2.out).mono ?_
          rintro e w14 ⟨rfl, rfl⟩
          rw [eqB_self]
          go_wp2_with fail
          refine (drop_ok HC13.out pa HPA.out.1 HPA.out.2 i HWY.out HI.out).mono ?_
          rintro e w15 ⟨rfl, hc15, ht15⟩
          rw [oneL_put, oneL_zero] at hc15
          have HC15 := Lib.hid hc15
          have HBE15 : Hid (Below w.heap.size w w15) := HBE13.out.trans (ht15.below HBE13.out.size HG.out)
          clear hc15 ht15
          go_wp2_with fail
          refine (drop_no HC15.out pa HPA.out.1 HPA.out.2 (by rw [wayI_none fun _ _ => isLine_zero _]; omega)).mono ?_
          rintro e w16 ⟨rfl, hb16⟩
          have HC16 := Lib.hid (HC15.out.below hb16)
          have HBE16 := Lib.hid (HBE15.out.trans (hb16.mono HBE15.out.size))
          clear hb16
          have HLK := Lib.hid (look_gone HC16.out pa HPA.out.1 HPA.out.2)
          go_wp2_with fail
          refine HLK.out.mono ?_
          rintro e w17 ⟨rfl, hb17⟩
          have HC17 := Lib.hid (HC16.out.below hb17)
          have HBE17 := Lib.hid (HBE16.out.trans (hb17.mono HBE16.out.size))
          clear hb17
          have HLE := Lib.hid (len_gone HC17.out)
          go_wp2_with fail
          refine HLE.out.mono ?_
          rintro e w18 ⟨rfl, hb18⟩
          have HBE18 := Lib.hid (HBE17.out.trans (hb18.mono HBE17.out.size))
          clear hb18
          go_wp2
          go_ret
          exact ⟨rfl, HBE18.out⟩
theorem cache_line_walk (w : World) (a0 : Int) (w0 : (Lit.int .i64 a0).wf = true) (a1 : Int) (w1 : (Lit.int .i64 a1).wf = true) (a2 : Int) (w2 : (Lit.int .u64 a2).wf = true) (a3 : Int) (w3 : (Lit.int .u64 a3).wf = true) (a4 : Int) (w4 : (Lit.int .u64 a4).wf = true) (a5 : Int) (w5 : (Lit.int .u64 a5).wf = true) (a6 : Int) (w6 : (Lit.int .i64 a6).wf = true) (a7 : Int) (w7 : (Lit.int .i64 a7).wf = true) :
    Calls Try.prog 4 #[.int .i64 a0, .int .i64 a1, .int .u64 a2, .int .u64 a3, .int .u64 a4, .int .u64 a5, .int .i64 a6, .int .i64 a7] w fun e w' => e = .returned (.bool true) ∧ Below w.heap.size w w' := by
  have h2 := wf_u64' w2; have h3 := wf_u64' w3; have h4 := wf_u64' w4; have h5 := wf_u64' w5
  exact line_walk w a0 a1 a2 a3 a4 a5 a6 a7 h2.1 (by omega) h3.1 (by omega) h4.1 (by omega) h5.1 (by omega)
end Go.Proofs.Ytlcedcjcecahoaa
