/- Contracts of tappethelp.Own, Same, Plain, Kept, CopyBytes. No condition. -/
import Derived.Test.YtebdbbpefmgooaaRules
import Derived.Test.YtebdbbpefmgooaaArgs
import Derived.Test.YtebdbbpefmgooaaRom
import Derived.Deep.OwnRows
import Derived.StillTailTactics
import Derived.BigRegion
import Derived.Deep.RegionWith
import Derived.Deep.RegionHeld3
import Derived.Deep.QuietTactic
import Derived.BigQuiet
import Derived.Deep.LoopGhost
import Derived.Deep.DeepCutAuto
import Derived.Deep.DeepFit
import Derived.Deep.DeepMust
import Derived.Handy
set_option linter.unusedVariables false
set_option linter.unusedSimpArgs false
namespace Go.Proofs.Ytebdbbpefmgooaa
open Go.RowKit

/-! ### byte -/
set_option maxRecDepth 100000 in
set_option maxHeartbeats 4000000 in
theorem own_u8 (a : Option Addr) (m c : Nat) (V : Nat → Int) (fill : Int) (w : World) (hn : a = none → c = 0) (hle : m ≤ c) (hm : (m : Int) ≤ 140737488351232) (hr : IsRow w a m (fun i => Value.int .u8 (V i))) :
    Calls Try.prog 35 #[.slice a m c, Value.int .u8 fill] w fun e w' => e = .returned (.slice (some ⟨w.heap.size, 0, none⟩) m (m + 3)) ∧ w'.rowIs w.heap.size 5 (m + 3) (fun i => Value.int .u8 (if i < m then V i else fill)) ∧ Below w.heap.size w w' := by
  have hmk : ∀ wq, (Instr.makeSlice 23 (.int .i64 0) (.int .i64 ((m : Int) + 3))).run Try.prog wq = .ok (.slice (some ⟨wq.heap.size, 0, none⟩) 0 (m + 3)) (wq.alloc (.cells (madeCells #[.int .u8 0] (m + 3)) 5)) := fun wq => by
    obtain ⟨i, hi, hzz⟩ := Option.map_eq_some_iff.1 A_info5
    simp only [Prod.mk.injEq] at hzz
    obtain ⟨hz, hsz, hb⟩ := hzz
    have := run_make (P := Try.prog) (w := wq) 23 5 i _ Try.underlying23 hi hz .i64 .i64 0 ((m : Int) + 3) (by omega) (by omega) (by rw [hb]; omega) (by omega)
    rw [this, hsz, show ((m : Int) + 3).toNat = m + 3 by omega, Nat.mul_one]
    rfl
  obtain ⟨inf, hinf, hzz⟩ := Option.map_eq_some_iff.1 A_info5
  simp only [Prod.mk.injEq] at hzz
  have HI := Lib.hid (And.intro hinf hzz)
  clear hinf hzz
  have HR := Lib.hid hr
  have HN := Lib.hid (And.intro hn hle)
  clear hr hn hle
  have hlen : Hid (((List.range m).map fun i => Value.int .u8 (V i)).length = m * 1) := by show _ = _; simp
  have hone : Hid (∀ u ∈ (List.range m).map fun i => Value.int .u8 (V i), u.oneCell' = true) := by
    intro u hu
    simp only [List.mem_map] at hu
    obtain ⟨i, _, rfl⟩ := hu
    rfl
  have hsrc : Hid (∀ ad, a = some ad → ∀ j u, ((List.range m).map fun i => Value.int .u8 (V i))[j]? = some u → (w.alloc (.cells (madeCells #[.int .u8 0] (m + 3)) 5)).cell? (ad.add j) = some u) := by
    intro ad he j u hu
    have hj : j < m := by have := (List.getElem?_eq_some_iff.1 hu).1; simpa using this
    obtain ⟨b, o, h1, h2, h3⟩ := HR.out (by omega)
    rw [h1] at he
    obtain rfl := Option.some.inj he
    rw [addr_add, World.cell?_alloc_lt _ _ _ h2, h3 j hj, ← hu]
    simp [hj]
  have hown0 : Hid ((w.alloc (.cells (madeCells #[.int .u8 0] (m + 3)) 5)).ownsRow w.heap.size 5 1 (.slice (some ⟨w.heap.size, 0, none⟩) 0 (m + 3)) 0 []) := by
    refine ⟨rfl, .inr ⟨w.heap.size, m + 3, madeCells #[.int .u8 0] (m + 3), rfl, Nat.le_refl _, blk_alloc _ _, Nat.zero_le _, ?_, ?_, rfl⟩⟩
    · unfold maxLen; omega
    · simp [madeCells]
  go_enter Try.func35, Try.ntmps35
  go_wp2_with (at_builtin; refine wpList_append_fits_any _ rfl _ _ 23 rfl w.heap.size 5 inf 1 Try.underlying23 HI.out.1 HI.out.2.2.1 w.heap.size 0 (m + 3) [] rfl hown0.out a m c _ rfl hlen.out (fun h => ⟨by have := HN.out.1 h; have := HN.out.2; omega, HN.out.1 h⟩) hsrc.out hone.out (by omega) ?_; intro w1 hown hg; have HO := Lib.hid hown; have HG := Lib.hid hg; clear hown hg hmk)
  obtain ⟨cur, hh, hsz, ht⟩ : ∃ cur : Array Value, w1.heap[w.heap.size]? = some (.cells cur 5 (0, 0)) ∧ cur.size = m + 3 ∧ ∀ i, i < m → cur[i]? = some (Value.int .u8 (V i)) := by
    rcases HO.out.2 with ⟨h, _⟩ | ⟨g, cap, cur, h, _, hh, _, _, hs, ht⟩
    · cases h
    · injection h with h1 _ h3
      injection h1 with h1
      injection h1 with h1
      subst h1
      subst h3
      refine ⟨cur, hh, by simpa using hs, fun i hi => ?_⟩
      have h4 := congrArg (fun l => l[i]?) ht
      simp [List.getElem?_take, hi] at h4
      simpa [show i < 0 + m by omega] using h4
  obtain ⟨q0, c0⟩ : ∃ q, w1.cell? ⟨w.heap.size, m, none⟩ = some q := ⟨cur[m]'(by omega), by rw [blk_cell hh]; simp⟩
  obtain ⟨q1, c1⟩ : ∃ q, w1.cell? ⟨w.heap.size, m + 1, none⟩ = some q := ⟨cur[m + 1]'(by omega), by rw [blk_cell hh]; simp⟩
  obtain ⟨q2, c2⟩ : ∃ q, w1.cell? ⟨w.heap.size, m + 2, none⟩ = some q := ⟨cur[m + 2]'(by omega), by rw [blk_cell hh]; simp⟩
  have f0 : w1.frozen? ⟨w.heap.size, m, none⟩ = false := blk_frozen hh _
  have f1 : w1.frozen? ⟨w.heap.size, m + 1, none⟩ = false := blk_frozen hh _
  have f2 : w1.frozen? ⟨w.heap.size, m + 2, none⟩ = false := blk_frozen hh _
  have HH := Lib.hid hh
  have HT := Lib.hid (And.intro hsz ht)
  clear hh hsz ht
  go_wp2_with fail
  go_rounds 4
  go_ret
  refine ⟨rfl, ⟨_, blk_set (blk_set (blk_set HH.out m (Value.int .u8 fill)) (m + 1) (Value.int .u8 fill)) (m + 2) (Value.int .u8 fill), by simp [HT.out.1], fun i hi => ?_⟩, ?_⟩
  · rw [Array.getElem?_setIfInBounds, Array.getElem?_setIfInBounds, Array.getElem?_setIfInBounds]
    simp only [Array.size_setIfInBounds, HT.out.1]
    by_cases h2 : m + 2 = i
    · subst h2; rw [if_pos rfl, if_pos (by omega), if_neg (by omega)]
    · rw [if_neg h2]
      by_cases h1 : m + 1 = i
      · subst h1; rw [if_pos rfl, if_pos (by omega), if_neg (by omega)]
      · rw [if_neg h1]
        by_cases h0 : m = i
        · subst h0; rw [if_pos rfl, if_pos (by omega), if_neg (by omega)]
        · rw [if_neg h0, HT.out.2 i (by omega), if_pos (by omega)]
  · have hB : Below w.heap.size w w1 := ((Below.refl w.heap.size w).alloc (Nat.le_refl _) _).grown HG.out (by simp) (by rintro k ⟨⟩; exact Nat.le_refl _)
    exact ((hB.setCell (Nat.le_refl _) _).setCell (Nat.le_refl _) _).setCell (Nat.le_refl _) _

set_option maxRecDepth 100000 in
set_option maxHeartbeats 2000000 in
theorem eq_u8 (x y : Int) (w : World) : Calls Try.prog 75 #[Value.int .u8 x, Value.int .u8 y] w fun e w' => e = .returned (.bool (x == y)) ∧ w = w' := by
  go_enter Try.func75, Try.ntmps75
  go_wp2
  go_ret
  exact ⟨ret_bool (by first | rfl | (simp; done)), rfl⟩
set_option maxRecDepth 100000 in
set_option maxHeartbeats 4000000 in
/-- two lists that are alike -/
theorem same_u8 (a1 a2 : Option Addr) (m c1 c2 : Nat) (V : Nat → Int) (w : World) (hm : (m : Int) ≤ 9223372036854775807) (h1 : IsRow w a1 m (fun i => Value.int .u8 (V i))) (h2 : IsRow w a2 m (fun i => Value.int .u8 (V i))) :
    Calls Try.prog 74 #[.slice a1 m c1, .slice a2 m c2, .func (.func 75) #[] #[]] w fun e w' => e = .returned (.bool true) ∧ ∃ k, w' = w.drewN k := by
  have H1 := Lib.hid h1
  have H2 := Lib.hid h2
  clear h1 h2
  go_enter Try.func74, Try.ntmps74
  go_wp2_with fail
  go_loopw [7] (fun i wr => ∃ k : Nat, (k : Int) ≤ m ∧ i = .int .i64 k ∧ ∃ q, wr = w.drewN q) (fun i _ => m - (intOf i).toNat)
  case atStart => exact ⟨0, by omega, rfl, 0, rfl⟩
  case round =>
    obtain ⟨k, hk, rfl, q, rfl⟩ := hrel
    by_cases hlt : (k : Int) < m
    · clear hk
      obtain ⟨b1, o1, rfl, _, hc1⟩ := H1.out (by omega)
      obtain ⟨b2, o2, rfl, _, hc2⟩ := H2.out (by omega)
      have e1 : w.cell? ⟨b1, o1 + k, none⟩ = some (Value.int .u8 (V k)) := hc1 k (by omega)
      have e2 : w.cell? ⟨b2, o2 + k, none⟩ = some (Value.int .u8 (V k)) := hc2 k (by omega)
      clear hc1 hc2
      generalize V k = x at *
      have hxx : (x == x) = true := by simp
      go_wp2_with fail
      refine wp_region_held_drew (S := fun w' => w'.cell? ⟨b1, o1 + k, none⟩ = some (Value.int .u8 x) ∧ w'.cell? ⟨b2, o2 + k, none⟩ = some (Value.int .u8 x) ∧ ∃ q, w' = w.drewN q) (by kernel_rfl) ⟨e1, e2, q + 1, rfl⟩ (fun hH => ?_)
      refine wpAnyH_take (i := 0) (oi := ⟨some 19, _, _, _, _, _⟩) (v := ?_) rfl (by kernel_rfl) (by kernel_rfl) (by kernel_rfl) (fun _ _ _ h => h) (Or.inl ⟨by kernel_rfl, ?_⟩) hH ?_
      rotate_left 1
      · intro wq hq; have hq1 := hq.1; have hq2 := hq.2.1; first | (go_simp; done) | (go_simp; with_reducible rfl)
      simp only [Act.put, List.setIfInBounds_toArray, List.set_cons_zero, List.set_cons_succ]
      refine wpAnyH_take (i := 1) (oi := ⟨some 20, _, _, _, _, _⟩) (v := ?_) rfl (by kernel_rfl) (by kernel_rfl) (by kernel_rfl) (fun _ _ _ h => h) (Or.inl ⟨by kernel_rfl, ?_⟩) hH ?_
      rotate_left 1
      · intro wq hq; have hq1 := hq.1; have hq2 := hq.2.1; first | (go_simp; done) | (go_simp; with_reducible rfl)
      simp only [Act.put, List.setIfInBounds_toArray, List.set_cons_zero, List.set_cons_succ]
      refine wpAnyH_take (i := 2) (oi := ⟨some 21, _, _, _, _, _⟩) (v := ?_) rfl (by kernel_rfl) (by kernel_rfl) (by kernel_rfl) (fun _ _ _ h => h) (Or.inl ⟨by kernel_rfl, ?_⟩) hH ?_
      rotate_left 1
      · intro wq hq; have hq1 := hq.1; have hq2 := hq.2.1; first | (go_simp; done) | (go_simp; with_reducible rfl)
      simp only [Act.put, List.setIfInBounds_toArray, List.set_cons_zero, List.set_cons_succ]
      refine wpAnyH_take (i := 3) (oi := ⟨some 22, _, _, _, _, _⟩) (v := ?_) rfl (by kernel_rfl) (by kernel_rfl) (by kernel_rfl) (fun _ _ _ h => h) (Or.inl ⟨by kernel_rfl, ?_⟩) hH ?_
      rotate_left 1
      · intro wq hq; have hq1 := hq.1; have hq2 := hq.2.1; first | (go_simp; done) | (go_simp; with_reducible rfl)
      simp only [Act.put, List.setIfInBounds_toArray, List.set_cons_zero, List.set_cons_succ]
      refine wpAnyH_take (i := 4) (oi := ⟨some 23, _, _, _, _, _⟩) (v := ?_) rfl (by kernel_rfl) (by kernel_rfl) (by kernel_rfl) (fun _ _ _ h => h) (Or.inl ⟨by kernel_rfl, ?_⟩) hH ?_
      rotate_left 1
      · intro wq hq; have hq1 := hq.1; have hq2 := hq.2.1; first | (go_simp; done) | (go_simp; with_reducible rfl)
      simp only [Act.put, List.setIfInBounds_toArray, List.set_cons_zero, List.set_cons_succ]
      refine wpAnyH_take (i := 5) (oi := ⟨some 24, _, _, _, _, _⟩) (v := ?_) rfl (by kernel_rfl) (by kernel_rfl) (by kernel_rfl) (fun _ _ _ h => h) (Or.inl ⟨by kernel_rfl, ?_⟩) hH ?_
      rotate_left 1
      · intro wq hq; have hq1 := hq.1; have hq2 := hq.2.1; first | (go_simp; done) | (go_simp; with_reducible rfl)
      simp only [Act.put, List.setIfInBounds_toArray, List.set_cons_zero, List.set_cons_succ]
      refine wpAnyH_take (i := 6) (oi := ⟨some 25, _, _, _, _, _⟩) (v := ?_) rfl (by kernel_rfl) (by kernel_rfl) (by kernel_rfl) (fun _ _ _ h => h) (Or.inl ⟨by kernel_rfl, ?_⟩) hH ?_
      rotate_left 1
      · intro wq hq; have hq1 := hq.1; have hq2 := hq.2.1; first | (go_simp; done) | (go_simp; with_reducible rfl)
      simp only [Act.put, List.setIfInBounds_toArray, List.set_cons_zero, List.set_cons_succ]
      refine wpAnyH_take (i := 7) (oi := ⟨some 26, _, _, _, _, _⟩) (v := ?_) rfl (by kernel_rfl) (by kernel_rfl) (by kernel_rfl) (fun _ _ _ h => h) (Or.inl ⟨by kernel_rfl, ?_⟩) hH ?_
      rotate_left 1
      · intro wq hq; have hq1 := hq.1; have hq2 := hq.2.1; first | (go_simp; done) | (go_simp; with_reducible rfl)
      simp only [Act.put, List.setIfInBounds_toArray, List.set_cons_zero, List.set_cons_succ]
      refine wpAnyH_take (i := 8) (oi := ⟨some 27, _, _, _, _, _⟩) (v := ?_) rfl (by kernel_rfl) (by kernel_rfl) (by kernel_rfl) (fun _ _ _ h => h) (Or.inl ⟨by kernel_rfl, ?_⟩) hH ?_
      rotate_left 1
      · intro wq hq; have hq1 := hq.1; have hq2 := hq.2.1; first | (go_simp; done) | (go_simp; with_reducible rfl)
      simp only [Act.put, List.setIfInBounds_toArray, List.set_cons_zero, List.set_cons_succ]
      refine wpAnyH_ready (rs := [9]) (by kernel_rfl) (by simp) (AllReadyH.cons (o := ⟨some 28, _, _, _, _, _⟩) rfl (fun K hK => ?_) AllReadyH.nil)
      go_simp
      refine (eq_u8 x x _).mono ?_
      rintro e w1 ⟨rfl, rfl⟩
      go_wp2_with fail
      refine hK.out _ _ hH (fun hH => ?_)
      clear hK K
      try simp only [Act.put, List.setIfInBounds_toArray, List.set_cons_zero, List.set_cons_succ]
      refine wpAnyH_take (i := 10) (oi := ⟨some 29, _, _, _, _, _⟩) (v := ?_) rfl (by kernel_rfl) (by kernel_rfl) (by kernel_rfl) (fun _ _ _ h => h) (Or.inl ⟨by kernel_rfl, ?_⟩) hH ?_
      rotate_left 1
      · intro wq hq; have hq1 := hq.1; have hq2 := hq.2.1; first | (go_simp; done) | (go_simp; with_reducible rfl)
      simp only [Act.put, List.setIfInBounds_toArray, List.set_cons_zero, List.set_cons_succ]
      refine wpAnyH_done (by kernel_rfl) ?_ _
      go_wp2_with fail
      exact ⟨⟨k + 1, by omega, by rw [Int.natCast_succ], _, rfl⟩, by simp [intOf]; omega⟩
    · obtain rfl : k = m := by omega
      go_wp2_with fail
      go_ret
      exact ⟨rfl, q, rfl⟩
set_option maxRecDepth 100000 in
set_option maxHeartbeats 2000000 in
theorem plain_u8 (a1 a2 : Option Addr) (m c1 c2 : Nat) (V : Nat → Int) (w : World) (hm : (m : Int) ≤ 9223372036854775807) (h1 : IsRow w a1 m (fun i => Value.int .u8 (V i))) (h2 : IsRow w a2 m (fun i => Value.int .u8 (V i))) :
    Calls Try.prog 59 #[.slice a1 m c1, .slice a2 m c2] w fun e w' => e = .returned (.bool true) ∧ ∃ k, w' = w.drewN k := by
  have H := Lib.hid (same_u8 a1 a2 m c1 c2 V w hm h1 h2)
  clear h1 h2
  go_enter Try.func59, Try.ntmps59
  go_wp2_with fail
  refine H.out.mono ?_
  rintro e w1 ⟨rfl, k, rfl⟩
  go_wp2_with fail
  go_ret
  exact ⟨rfl, k, rfl⟩
set_option maxRecDepth 100000 in
set_option maxHeartbeats 2000000 in
/-- the copy and the room behind it are as they were -/
theorem kept_u8 (a : Option Addr) (m c g : Nat) (V : Nat → Int) (fill : Int) (w : World) (hm : (m : Int) ≤ 140737488351232) (ho : w.rowIs g 5 (m + 3) (fun i => Value.int .u8 (if i < m then V i else fill))) (hr : IsRow w a m (fun i => Value.int .u8 (V i))) :
    Calls Try.prog 37 #[.slice (some ⟨g, 0, none⟩) m (m + 3), .slice a m c, Value.int .u8 fill] w fun e w' => e = .returned (.bool true) ∧ ∃ k, w' = w.drewN k := by
  have HP := Lib.hid (plain_u8 (some ⟨g, 0, none⟩) a m (m + 3) c V w (by omega) (fun hn => ⟨g, 0, rfl, ho.lt, fun i hi => by rw [Nat.zero_add, ho.cell (by omega), if_pos hi]⟩) hr)
  have c0 : w.cell? ⟨g, m, none⟩ = some (Value.int .u8 fill) := by rw [ho.cell (by omega), if_neg (by omega)]
  have c1 : w.cell? ⟨g, m + 1, none⟩ = some (Value.int .u8 fill) := by rw [ho.cell (by omega), if_neg (by omega)]
  have c2 : w.cell? ⟨g, m + 2, none⟩ = some (Value.int .u8 fill) := by rw [ho.cell (by omega), if_neg (by omega)]
  clear ho hr
  go_enter Try.func37, Try.ntmps37
  go_wp2_with fail
  refine HP.out.mono ?_
  rintro e w1 ⟨rfl, k, rfl⟩
  clear HP
  go_wp2_with fail
  go_rounds 4
  go_ret
  exact ⟨rfl, k, rfl⟩

/-! ### bool -/
set_option maxRecDepth 100000 in
set_option maxHeartbeats 4000000 in
theorem own_bool (a : Option Addr) (m c : Nat) (V : Nat → Bool) (fill : Bool) (w : World) (hn : a = none → c = 0) (hle : m ≤ c) (hm : (m : Int) ≤ 140737488351232) (hr : IsRow w a m (fun i => Value.bool (V i))) :
    Calls Try.prog 67 #[.slice a m c, Value.bool fill] w fun e w' => e = .returned (.slice (some ⟨w.heap.size, 0, none⟩) m (m + 3)) ∧ w'.rowIs w.heap.size 4 (m + 3) (fun i => Value.bool (if i < m then V i else fill)) ∧ Below w.heap.size w w' := by
  have hmk : ∀ wq, (Instr.makeSlice 82 (.int .i64 0) (.int .i64 ((m : Int) + 3))).run Try.prog wq = .ok (.slice (some ⟨wq.heap.size, 0, none⟩) 0 (m + 3)) (wq.alloc (.cells (madeCells #[.bool false] (m + 3)) 4)) := fun wq => by
    obtain ⟨i, hi, hzz⟩ := Option.map_eq_some_iff.1 A_info4
    simp only [Prod.mk.injEq] at hzz
    obtain ⟨hz, hsz, hb⟩ := hzz
    have := run_make (P := Try.prog) (w := wq) 82 4 i _ Try.underlying82 hi hz .i64 .i64 0 ((m : Int) + 3) (by omega) (by omega) (by rw [hb]; omega) (by omega)
    rw [this, hsz, show ((m : Int) + 3).toNat = m + 3 by omega, Nat.mul_one]
    rfl
  obtain ⟨inf, hinf, hzz⟩ := Option.map_eq_some_iff.1 A_info4
  simp only [Prod.mk.injEq] at hzz
  have HI := Lib.hid (And.intro hinf hzz)
  clear hinf hzz
  have HR := Lib.hid hr
  have HN := Lib.hid (And.intro hn hle)
  clear hr hn hle
  have hlen : Hid (((List.range m).map fun i => Value.bool (V i)).length = m * 1) := by show _ = _; simp
  have hone : Hid (∀ u ∈ (List.range m).map fun i => Value.bool (V i), u.oneCell' = true) := by
    intro u hu
    simp only [List.mem_map] at hu
    obtain ⟨i, _, rfl⟩ := hu
    rfl
  have hsrc : Hid (∀ ad, a = some ad → ∀ j u, ((List.range m).map fun i => Value.bool (V i))[j]? = some u → (w.alloc (.cells (madeCells #[.bool false] (m + 3)) 4)).cell? (ad.add j) = some u) := by
    intro ad he j u hu
    have hj : j < m := by have := (List.getElem?_eq_some_iff.1 hu).1; simpa using this
    obtain ⟨b, o, h1, h2, h3⟩ := HR.out (by omega)
    rw [h1] at he
    obtain rfl := Option.some.inj he
    rw [addr_add, World.cell?_alloc_lt _ _ _ h2, h3 j hj, ← hu]
    simp [hj]
  have hown0 : Hid ((w.alloc (.cells (madeCells #[.bool false] (m + 3)) 4)).ownsRow w.heap.size 4 1 (.slice (some ⟨w.heap.size, 0, none⟩) 0 (m + 3)) 0 []) := by
    refine ⟨rfl, .inr ⟨w.heap.size, m + 3, madeCells #[.bool false] (m + 3), rfl, Nat.le_refl _, blk_alloc _ _, Nat.zero_le _, ?_, ?_, rfl⟩⟩
    · unfold maxLen; omega
    · simp [madeCells]
  go_enter Try.func67, Try.ntmps67
  go_wp2_with (at_builtin; refine wpList_append_fits_any _ rfl _ _ 82 rfl w.heap.size 4 inf 1 Try.underlying82 HI.out.1 HI.out.2.2.1 w.heap.size 0 (m + 3) [] rfl hown0.out a m c _ rfl hlen.out (fun h => ⟨by have := HN.out.1 h; have := HN.out.2; omega, HN.out.1 h⟩) hsrc.out hone.out (by omega) ?_; intro w1 hown hg; have HO := Lib.hid hown; have HG := Lib.hid hg; clear hown hg hmk)
  obtain ⟨cur, hh, hsz, ht⟩ : ∃ cur : Array Value, w1.heap[w.heap.size]? = some (.cells cur 4 (0, 0)) ∧ cur.size = m + 3 ∧ ∀ i, i < m → cur[i]? = some (Value.bool (V i)) := by
    rcases HO.out.2 with ⟨h, _⟩ | ⟨g, cap, cur, h, _, hh, _, _, hs, ht⟩
    · cases h
    · injection h with h1 _ h3
      injection h1 with h1
      injection h1 with h1
      subst h1
      subst h3
      refine ⟨cur, hh, by simpa using hs, fun i hi => ?_⟩
      have h4 := congrArg (fun l => l[i]?) ht
      simp [List.getElem?_take, hi] at h4
      simpa [show i < 0 + m by omega] using h4
  obtain ⟨q0, c0⟩ : ∃ q, w1.cell? ⟨w.heap.size, m, none⟩ = some q := ⟨cur[m]'(by omega), by rw [blk_cell hh]; simp⟩
  obtain ⟨q1, c1⟩ : ∃ q, w1.cell? ⟨w.heap.size, m + 1, none⟩ = some q := ⟨cur[m + 1]'(by omega), by rw [blk_cell hh]; simp⟩
  obtain ⟨q2, c2⟩ : ∃ q, w1.cell? ⟨w.heap.size, m + 2, none⟩ = some q := ⟨cur[m + 2]'(by omega), by rw [blk_cell hh]; simp⟩
  have f0 : w1.frozen? ⟨w.heap.size, m, none⟩ = false := blk_frozen hh _
  have f1 : w1.frozen? ⟨w.heap.size, m + 1, none⟩ = false := blk_frozen hh _
  have f2 : w1.frozen? ⟨w.heap.size, m + 2, none⟩ = false := blk_frozen hh _
  have HH := Lib.hid hh
  have HT := Lib.hid (And.intro hsz ht)
  clear hh hsz ht
  go_wp2_with fail
  go_rounds 4
  go_ret
  refine ⟨rfl, ⟨_, blk_set (blk_set (blk_set HH.out m (Value.bool fill)) (m + 1) (Value.bool fill)) (m + 2) (Value.bool fill), by simp [HT.out.1], fun i hi => ?_⟩, ?_⟩
  · rw [Array.getElem?_setIfInBounds, Array.getElem?_setIfInBounds, Array.getElem?_setIfInBounds]
    simp only [Array.size_setIfInBounds, HT.out.1]
    by_cases h2 : m + 2 = i
    · subst h2; rw [if_pos rfl, if_pos (by omega), if_neg (by omega)]
    · rw [if_neg h2]
      by_cases h1 : m + 1 = i
      · subst h1; rw [if_pos rfl, if_pos (by omega), if_neg (by omega)]
      · rw [if_neg h1]
        by_cases h0 : m = i
        · subst h0; rw [if_pos rfl, if_pos (by omega), if_neg (by omega)]
        · rw [if_neg h0, HT.out.2 i (by omega), if_pos (by omega)]
  · have hB : Below w.heap.size w w1 := ((Below.refl w.heap.size w).alloc (Nat.le_refl _) _).grown HG.out (by simp) (by rintro k ⟨⟩; exact Nat.le_refl _)
    exact ((hB.setCell (Nat.le_refl _) _).setCell (Nat.le_refl _) _).setCell (Nat.le_refl _) _

set_option maxRecDepth 100000 in
set_option maxHeartbeats 2000000 in
theorem eq_bool (x y : Bool) (w : World) : Calls Try.prog 88 #[Value.bool x, Value.bool y] w fun e w' => e = .returned (.bool (x == y)) ∧ w = w' := by
  go_enter Try.func88, Try.ntmps88
  go_wp2
  go_ret
  exact ⟨ret_bool (by first | rfl | (simp; done)), rfl⟩
set_option maxRecDepth 100000 in
set_option maxHeartbeats 4000000 in
/-- two lists that are alike -/
theorem same_bool (a1 a2 : Option Addr) (m c1 c2 : Nat) (V : Nat → Bool) (w : World) (hm : (m : Int) ≤ 9223372036854775807) (h1 : IsRow w a1 m (fun i => Value.bool (V i))) (h2 : IsRow w a2 m (fun i => Value.bool (V i))) :
    Calls Try.prog 87 #[.slice a1 m c1, .slice a2 m c2, .func (.func 88) #[] #[]] w fun e w' => e = .returned (.bool true) ∧ ∃ k, w' = w.drewN k := by
  have H1 := Lib.hid h1
  have H2 := Lib.hid h2
  clear h1 h2
  go_enter Try.func87, Try.ntmps87
  go_wp2_with fail
  go_loopw [7] (fun i wr => ∃ k : Nat, (k : Int) ≤ m ∧ i = .int .i64 k ∧ ∃ q, wr = w.drewN q) (fun i _ => m - (intOf i).toNat)
  case atStart => exact ⟨0, by omega, rfl, 0, rfl⟩
  case round =>
    obtain ⟨k, hk, rfl, q, rfl⟩ := hrel
    by_cases hlt : (k : Int) < m
    · clear hk
      obtain ⟨b1, o1, rfl, _, hc1⟩ := H1.out (by omega)
      obtain ⟨b2, o2, rfl, _, hc2⟩ := H2.out (by omega)
      have e1 : w.cell? ⟨b1, o1 + k, none⟩ = some (Value.bool (V k)) := hc1 k (by omega)
      have e2 : w.cell? ⟨b2, o2 + k, none⟩ = some (Value.bool (V k)) := hc2 k (by omega)
      clear hc1 hc2
      generalize V k = x at *
      have hxx : (x == x) = true := by simp
      go_wp2_with fail
      refine wp_region_held_drew (S := fun w' => w'.cell? ⟨b1, o1 + k, none⟩ = some (Value.bool x) ∧ w'.cell? ⟨b2, o2 + k, none⟩ = some (Value.bool x) ∧ ∃ q, w' = w.drewN q) (by kernel_rfl) ⟨e1, e2, q + 1, rfl⟩ (fun hH => ?_)
      refine wpAnyH_take (i := 0) (oi := ⟨some 19, _, _, _, _, _⟩) (v := ?_) rfl (by kernel_rfl) (by kernel_rfl) (by kernel_rfl) (fun _ _ _ h => h) (Or.inl ⟨by kernel_rfl, ?_⟩) hH ?_
      rotate_left 1
      · intro wq hq; have hq1 := hq.1; have hq2 := hq.2.1; first | (go_simp; done) | (go_simp; with_reducible rfl)
      simp only [Act.put, List.setIfInBounds_toArray, List.set_cons_zero, List.set_cons_succ]
      refine wpAnyH_take (i := 1) (oi := ⟨some 20, _, _, _, _, _⟩) (v := ?_) rfl (by kernel_rfl) (by kernel_rfl) (by kernel_rfl) (fun _ _ _ h => h) (Or.inl ⟨by kernel_rfl, ?_⟩) hH ?_
      rotate_left 1
      · intro wq hq; have hq1 := hq.1; have hq2 := hq.2.1; first | (go_simp; done) | (go_simp; with_reducible rfl)
      simp only [Act.put, List.setIfInBounds_toArray, List.set_cons_zero, List.set_cons_succ]
      refine wpAnyH_take (i := 2) (oi := ⟨some 21, _, _, _, _, _⟩) (v := ?_) rfl (by kernel_rfl) (by kernel_rfl) (by kernel_rfl) (fun _ _ _ h => h) (Or.inl ⟨by kernel_rfl, ?_⟩) hH ?_
      rotate_left 1
      · intro wq hq; have hq1 := hq.1; have hq2 := hq.2.1; first | (go_simp; done) | (go_simp; with_reducible rfl)
      simp only [Act.put, List.setIfInBounds_toArray, List.set_cons_zero, List.set_cons_succ]
      refine wpAnyH_take (i := 3) (oi := ⟨some 22, _, _, _, _, _⟩) (v := ?_) rfl (by kernel_rfl) (by kernel_rfl) (by kernel_rfl) (fun _ _ _ h => h) (Or.inl ⟨by kernel_rfl, ?_⟩) hH ?_
      rotate_left 1
      · intro wq hq; have hq1 := hq.1; have hq2 := hq.2.1; first | (go_simp; done) | (go_simp; with_reducible rfl)
      simp only [Act.put, List.setIfInBounds_toArray, List.set_cons_zero, List.set_cons_succ]
      refine wpAnyH_take (i := 4) (oi := ⟨some 23, _, _, _, _, _⟩) (v := ?_) rfl (by kernel_rfl) (by kernel_rfl) (by kernel_rfl) (fun _ _ _ h => h) (Or.inl ⟨by kernel_rfl, ?_⟩) hH ?_
      rotate_left 1
      · intro wq hq; have hq1 := hq.1; have hq2 := hq.2.1; first | (go_simp; done) | (go_simp; with_reducible rfl)
      simp only [Act.put, List.setIfInBounds_toArray, List.set_cons_zero, List.set_cons_succ]
      refine wpAnyH_take (i := 5) (oi := ⟨some 24, _, _, _, _, _⟩) (v := ?_) rfl (by kernel_rfl) (by kernel_rfl) (by kernel_rfl) (fun _ _ _ h => h) (Or.inl ⟨by kernel_rfl, ?_⟩) hH ?_
      rotate_left 1
      · intro wq hq; have hq1 := hq.1; have hq2 := hq.2.1; first | (go_simp; done) | (go_simp; with_reducible rfl)
      simp only [Act.put, List.setIfInBounds_toArray, List.set_cons_zero, List.set_cons_succ]
      refine wpAnyH_take (i := 6) (oi := ⟨some 25, _, _, _, _, _⟩) (v := ?_) rfl (by kernel_rfl) (by kernel_rfl) (by kernel_rfl) (fun _ _ _ h => h) (Or.inl ⟨by kernel_rfl, ?_⟩) hH ?_
      rotate_left 1
      · intro wq hq; have hq1 := hq.1; have hq2 := hq.2.1; first | (go_simp; done) | (go_simp; with_reducible rfl)
      simp only [Act.put, List.setIfInBounds_toArray, List.set_cons_zero, List.set_cons_succ]
      refine wpAnyH_take (i := 7) (oi := ⟨some 26, _, _, _, _, _⟩) (v := ?_) rfl (by kernel_rfl) (by kernel_rfl) (by kernel_rfl) (fun _ _ _ h => h) (Or.inl ⟨by kernel_rfl, ?_⟩) hH ?_
      rotate_left 1
      · intro wq hq; have hq1 := hq.1; have hq2 := hq.2.1; first | (go_simp; done) | (go_simp; with_reducible rfl)
      simp only [Act.put, List.setIfInBounds_toArray, List.set_cons_zero, List.set_cons_succ]
      refine wpAnyH_take (i := 8) (oi := ⟨some 27, _, _, _, _, _⟩) (v := ?_) rfl (by kernel_rfl) (by kernel_rfl) (by kernel_rfl) (fun _ _ _ h => h) (Or.inl ⟨by kernel_rfl, ?_⟩) hH ?_
      rotate_left 1
      · intro wq hq; have hq1 := hq.1; have hq2 := hq.2.1; first | (go_simp; done) | (go_simp; with_reducible rfl)
      simp only [Act.put, List.setIfInBounds_toArray, List.set_cons_zero, List.set_cons_succ]
      refine wpAnyH_ready (rs := [9]) (by kernel_rfl) (by simp) (AllReadyH.cons (o := ⟨some 28, _, _, _, _, _⟩) rfl (fun K hK => ?_) AllReadyH.nil)
      go_simp
      refine (eq_bool x x _).mono ?_
      rintro e w1 ⟨rfl, rfl⟩
      go_wp2_with fail
      refine hK.out _ _ hH (fun hH => ?_)
      clear hK K
      try simp only [Act.put, List.setIfInBounds_toArray, List.set_cons_zero, List.set_cons_succ]
      refine wpAnyH_take (i := 10) (oi := ⟨some 29, _, _, _, _, _⟩) (v := ?_) rfl (by kernel_rfl) (by kernel_rfl) (by kernel_rfl) (fun _ _ _ h => h) (Or.inl ⟨by kernel_rfl, ?_⟩) hH ?_
      rotate_left 1
      · intro wq hq; have hq1 := hq.1; have hq2 := hq.2.1; first | (go_simp; done) | (go_simp; with_reducible rfl)
      simp only [Act.put, List.setIfInBounds_toArray, List.set_cons_zero, List.set_cons_succ]
      refine wpAnyH_done (by kernel_rfl) ?_ _
      go_wp2_with fail
      exact ⟨⟨k + 1, by omega, by rw [Int.natCast_succ], _, rfl⟩, by simp [intOf]; omega⟩
    · obtain rfl : k = m := by omega
      go_wp2_with fail
      go_ret
      exact ⟨rfl, q, rfl⟩
set_option maxRecDepth 100000 in
set_option maxHeartbeats 2000000 in
theorem plain_bool (a1 a2 : Option Addr) (m c1 c2 : Nat) (V : Nat → Bool) (w : World) (hm : (m : Int) ≤ 9223372036854775807) (h1 : IsRow w a1 m (fun i => Value.bool (V i))) (h2 : IsRow w a2 m (fun i => Value.bool (V i))) :
    Calls Try.prog 80 #[.slice a1 m c1, .slice a2 m c2] w fun e w' => e = .returned (.bool true) ∧ ∃ k, w' = w.drewN k := by
  have H := Lib.hid (same_bool a1 a2 m c1 c2 V w hm h1 h2)
  clear h1 h2
  go_enter Try.func80, Try.ntmps80
  go_wp2_with fail
  refine H.out.mono ?_
  rintro e w1 ⟨rfl, k, rfl⟩
  go_wp2_with fail
  go_ret
  exact ⟨rfl, k, rfl⟩
set_option maxRecDepth 100000 in
set_option maxHeartbeats 2000000 in
/-- the copy and the room behind it are as they were -/
theorem kept_bool (a : Option Addr) (m c g : Nat) (V : Nat → Bool) (fill : Bool) (w : World) (hm : (m : Int) ≤ 140737488351232) (ho : w.rowIs g 4 (m + 3) (fun i => Value.bool (if i < m then V i else fill))) (hr : IsRow w a m (fun i => Value.bool (V i))) :
    Calls Try.prog 69 #[.slice (some ⟨g, 0, none⟩) m (m + 3), .slice a m c, Value.bool fill] w fun e w' => e = .returned (.bool true) ∧ ∃ k, w' = w.drewN k := by
  have HP := Lib.hid (plain_bool (some ⟨g, 0, none⟩) a m (m + 3) c V w (by omega) (fun hn => ⟨g, 0, rfl, ho.lt, fun i hi => by rw [Nat.zero_add, ho.cell (by omega), if_pos hi]⟩) hr)
  have c0 : w.cell? ⟨g, m, none⟩ = some (Value.bool fill) := by rw [ho.cell (by omega), if_neg (by omega)]
  have c1 : w.cell? ⟨g, m + 1, none⟩ = some (Value.bool fill) := by rw [ho.cell (by omega), if_neg (by omega)]
  have c2 : w.cell? ⟨g, m + 2, none⟩ = some (Value.bool fill) := by rw [ho.cell (by omega), if_neg (by omega)]
  clear ho hr
  go_enter Try.func69, Try.ntmps69
  go_wp2_with fail
  refine HP.out.mono ?_
  rintro e w1 ⟨rfl, k, rfl⟩
  clear HP
  go_wp2_with fail
  go_rounds 4
  go_ret
  exact ⟨rfl, k, rfl⟩
set_option maxRecDepth 100000 in
set_option maxHeartbeats 2000000 in
theorem copy_bytes (a : Option Addr) (m c : Nat) (l : List Int) (w : World) (h : IsB w a m l) (hm : (m : Int) ≤ 140737488355328) :
    Calls Try.prog 47 #[.slice a m c] w fun e w' => ∃ v, e = .returned v ∧ w'.ownsRow w.heap.size 5 1 v m (l.map (Value.int .u8)) ∧ Below w.heap.size w w' := by
  have hsrc : Hid (SrcIs w a m (l.map (Value.int .u8))) := by
    refine ⟨by rw [List.length_map]; exact h.hlen, h.cell.imp id ?_⟩
    rintro ⟨b, o, rfl, hc⟩
    refine ⟨b, o, rfl, fun i hi => ?_⟩
    have hl := h.hlen
    rw [hc i hi]
    simp [List.getD, hl, hi]
  have hone : Hid (∀ u ∈ l.map (Value.int .u8), u.oneCell' = true) := by intro u hu; simp at hu; obtain ⟨_, _, rfl⟩ := hu; rfl
  clear h
  go_enter Try.func47, Try.ntmps47
  go_wp2_with (at_builtin; refine wpList_app rfl _ _ 23 rfl w.heap.size 5 (.int .u8 0) 1 Try.underlying23 A_info5 rfl (.slice none 0 0) 0 [] rfl (World.ownsRow_nil _ _ _ _) a m c (l.map (Value.int .u8)) rfl hsrc.out hone.out (by omega) (by unfold maxLen; omega) (Nat.le_refl _) ?_; intro v' w2 hown hg _)
  all_goals
    have HO := Lib.hid hown
    have HG := Lib.hid hg
    clear hown hg
    go_ret
    refine ⟨v', rfl, by have := HO.out; simpa using this, (Below.refl _ _).grown HG.out (Nat.le_refl _) (by intro k hk; cases hk)⟩
end Go.Proofs.Ytebdbbpefmgooaa
