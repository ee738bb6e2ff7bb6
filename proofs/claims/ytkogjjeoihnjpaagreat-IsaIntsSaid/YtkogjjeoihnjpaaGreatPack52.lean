/- The document's Select told plainly. No condition. -/
import Derived.Test.YtkogjjeoihnjpaaGreatPack51
import Derived.StillTailTactics
import Derived.BigRegion
import Derived.Deep.RegionWith
import Derived.Deep.RegionHeld3
import Derived.Deep.QuietTactic
import Derived.BigQuiet
import Derived.Handy
section
set_option linter.unusedVariables false
set_option linter.unusedSimpArgs false
namespace Go.Proofs.YtkogjjeoihnjpaaGreat
open Go.RowKit Sx
set_option maxRecDepth 100000
attribute [local go_sem ↓] ld_csr ld_env
theorem selV_1 {on D : Nat} {e1 e2 : Bool} (k : Nat) (hk : k < 6) (h : ∀ j, j < k → (fun n => on.testBit n && !D.testBit n && e1) (ordL.getD j 0) = false) (hP : (fun n => on.testBit n && !D.testBit n && e1) (ordL.getD k 0) = true) : selV on D e1 e2 = [9223372036854775808 + ((ordL.getD k 0 : Nat) : Int), 1] := by
  simp only [Bool.and_eq_true] at hP
  obtain ⟨hP, rfl⟩ := hP
  have := firstV_at (P := fun n => on.testBit n && !D.testBit n) k hk (fun j hj => by have := h j hj; simpa using this) (by simpa using hP)
  unfold selV
  rw [this]
  simp
theorem selV_n {on D : Nat} {e1 : Bool} (h : ∀ j, j < 6 → (fun n => on.testBit n && !D.testBit n && e1) (ordL.getD j 0) = false) : ¬ (e1 = true ∧ (firstV fun n => on.testBit n && !D.testBit n).getD 1 0 = 1) := by
  rintro ⟨rfl, h2⟩
  rw [firstV_none fun j hj => by have := h j hj; simpa using this] at h2
  simp at h2
theorem selV_2 {on D : Nat} {e1 e2 : Bool} (h : ∀ j, j < 6 → (fun n => on.testBit n && !D.testBit n && e1) (ordL.getD j 0) = false) (k : Nat) (hk : k < 6) (h2 : ∀ j, j < k → (fun n => on.testBit n && D.testBit n && e2) (ordL.getD j 0) = false) (hP : (fun n => on.testBit n && D.testBit n && e2) (ordL.getD k 0) = true) : selV on D e1 e2 = [9223372036854775808 + ((ordL.getD k 0 : Nat) : Int), 1] := by
  simp only [Bool.and_eq_true] at hP
  obtain ⟨hP, rfl⟩ := hP
  have := firstV_at (P := fun n => on.testBit n && D.testBit n) k hk (fun j hj => by have := h2 j hj; simpa using this) (by simpa using hP)
  unfold selV
  rw [if_neg (selV_n h), if_pos rfl, this]
theorem selV_0 {on D : Nat} {e1 e2 : Bool} (h : ∀ j, j < 6 → (fun n => on.testBit n && !D.testBit n && e1) (ordL.getD j 0) = false) (h2 : ∀ j, j < 6 → (fun n => on.testBit n && D.testBit n && e2) (ordL.getD j 0) = false) : selV on D e1 e2 = [0, 0] := by
  unfold selV
  rw [if_neg (selV_n h)]
  split
  · rename_i he
    subst he
    exact firstV_none fun j hj => by have := h2 j hj; simpa using this
  · rfl
set_option maxHeartbeats 8000000 in
theorem rsel_ok (h ev : List Int) (hh : InB hartR h) (w : World) : Calls Tryz.prog 23 #[.agg (hartA h), .agg (envB ev)] w (Gives (tupV (selP h ev)) w) := by
  obtain ⟨D, hD, hD64⟩ : ∃ n : Nat, h.getD 36 0 = n ∧ n < 18446744073709551616 := u64_nat (inB_get hh (i := 36) (r := U) rfl)
  obtain ⟨on, hon, hon64⟩ : ∃ n : Nat, bits .and .u64 (pendV h ev) (h.getD 37 0) = n ∧ n < 18446744073709551616 := u64_nat (bits_rng .and _ _ (.inl rfl))
  obtain ⟨ie, hie⟩ : ∃ x, x = h.getD 37 0 := ⟨_, rfl⟩
  obtain ⟨pv, hpv⟩ : ∃ x, x = h.getD 1 0 := ⟨_, rfl⟩
  obtain ⟨st, hst⟩ : ∃ x, x = h.getD 34 0 := ⟨_, rfl⟩
  have HS : Hid (selP h ev = selV on D (decide (pv ≠ 3) || decide (bits .and .u64 st 8 ≠ 0)) (decide (pv = 0) || (decide (pv = 1) && decide (bits .and .u64 st 2 ≠ 0)))) := by
    show _ = _
    unfold selP onN en1 en2
    rw [hon, hD, ← hpv, ← hst]; rfl
  have HC : Hid (∀ (wq : World) (g : Nat), wq.heap[g]? = some (.cells (hartA h) 43 (0, 0)) → wq.cell? ⟨g, 1, none⟩ = some (.int .i64 pv) ∧ wq.cell? ⟨g, 34, none⟩ = some (.int .u64 st) ∧ wq.cell? ⟨g, 36, none⟩ = some (.int .u64 (D : Nat)) ∧ wq.cell? ⟨g, 37, none⟩ = some (.int .u64 ie)) := fun wq g hq => by
    have := hart_at hq
    rw [← hpv, ← hst, hD, ← hie] at this; exact this
  have HP : Hid (∃ pe, pendV h ev = pe ∧ bits .and .u64 pe ie = (on : Nat)) := ⟨_, rfl, by rw [hie]; exact hon⟩
  clear hh hD hon hpv hst hie
  go_enter Tryz.func23, Tryz.ntmps23
  go_wp2_with fail
  have q0 : ((w.alloc (.cells (hartA h) 43)).alloc (.cells (envB ev) 38)).heap[w.heap.size]? = some (.cells (hartA h) 43 (0, 0)) := (blk_alloc_old _ _ _ (by simp)).trans (blk_alloc _ _)
  have q1 : ((w.alloc (.cells (hartA h) 43)).alloc (.cells (envB ev) 38)).heap[w.heap.size + 1]? = some (.cells (envB ev) 38 (0, 0)) := by have := blk_alloc (w.alloc (.cells (hartA h) 43)) (.cells (envB ev) 38); simpa using this
  have hbel : Below w.heap.size w ((w.alloc (.cells (hartA h) 43)).alloc (.cells (envB ev) 38)) := ((Below.refl _ w).alloc (Nat.le_refl _) _).alloc (by simp) _
  generalize (w.alloc (.cells (hartA h) 43)).alloc (.cells (envB ev) 38) = w1 at *
  obtain ⟨g1, hg1⟩ : ∃ g, g = w.heap.size + 1 := ⟨_, rfl⟩
  rw [← hg1] at q1 ⊢
  obtain ⟨g0, hg0⟩ : ∃ g, g = w.heap.size := ⟨_, rfl⟩
  rw [← hg0] at q0 ⊢
  clear hg0 hg1
  have HB := Lib.hid hbel; have Q0 := Lib.hid q0; have Q1 := Lib.hid q1
  clear hbel q0 q1
  refine wp_region_held_drew (S := fun wq => wq.heap[g0]? = some (.cells (hartA h) 43 (0, 0)) ∧ wq.heap[g1]? = some (.cells (envB ev) 38 (0, 0))) (by kernel_rfl) ⟨Q0.out, Q1.out⟩ (fun hH => ?_)
  refine wpAnyH_take (i := 0) (oi := ⟨some 12, _, _, _, _, _⟩) (v := ?_) rfl (by kernel_rfl) (by kernel_rfl) (by kernel_rfl) (fun _ _ _ h => h) (Or.inl ⟨by kernel_rfl, ?_⟩) hH ?_
  rotate_left 1
  · intro wq hq; obtain ⟨r1, r34, r36, r37⟩ := HC.out wq g0 hq.1; have rc := rl_csr hq.1; have re := rl_envB hq.2; clear hq; first | (go_simp; done) | (go_simp; with_reducible rfl)
  simp only [Act.put, List.setIfInBounds_toArray, List.set_cons_zero, List.set_cons_succ]
  refine wpAnyH_take (i := 1) (oi := ⟨some 13, _, _, _, _, _⟩) (v := ?_) rfl (by kernel_rfl) (by kernel_rfl) (by kernel_rfl) (fun _ _ _ h => h) (Or.inl ⟨by kernel_rfl, ?_⟩) hH ?_
  rotate_left 1
  · intro wq hq; obtain ⟨r1, r34, r36, r37⟩ := HC.out wq g0 hq.1; have rc := rl_csr hq.1; have re := rl_envB hq.2; clear hq; first | (go_simp; done) | (go_simp; with_reducible rfl)
  simp only [Act.put, List.setIfInBounds_toArray, List.set_cons_zero, List.set_cons_succ]
  refine wpAnyH_take (i := 2) (oi := ⟨some 14, _, _, _, _, _⟩) (v := ?_) rfl (by kernel_rfl) (by kernel_rfl) (by kernel_rfl) (fun _ _ _ h => h) (Or.inl ⟨by kernel_rfl, ?_⟩) hH ?_
  rotate_left 1
  · intro wq hq; obtain ⟨r1, r34, r36, r37⟩ := HC.out wq g0 hq.1; have rc := rl_csr hq.1; have re := rl_envB hq.2; clear hq; first | (go_simp; done) | (go_simp; with_reducible rfl)
  simp only [Act.put, List.setIfInBounds_toArray, List.set_cons_zero, List.set_cons_succ]
  refine wpAnyH_take (i := 4) (oi := ⟨some 16, _, _, _, _, _⟩) (v := ?_) rfl (by kernel_rfl) (by kernel_rfl) (by kernel_rfl) (fun _ _ _ h => h) (Or.inl ⟨by kernel_rfl, ?_⟩) hH ?_
  rotate_left 1
  · intro wq hq; obtain ⟨r1, r34, r36, r37⟩ := HC.out wq g0 hq.1; have rc := rl_csr hq.1; have re := rl_envB hq.2; clear hq; first | (go_simp; done) | (go_simp; with_reducible rfl)
  simp only [Act.put, List.setIfInBounds_toArray, List.set_cons_zero, List.set_cons_succ]
  refine wpAnyH_take (i := 5) (oi := ⟨some 17, _, _, _, _, _⟩) (v := ?_) rfl (by kernel_rfl) (by kernel_rfl) (by kernel_rfl) (fun _ _ _ h => h) (Or.inl ⟨by kernel_rfl, ?_⟩) hH ?_
  rotate_left 1
  · intro wq hq; obtain ⟨r1, r34, r36, r37⟩ := HC.out wq g0 hq.1; have rc := rl_csr hq.1; have re := rl_envB hq.2; clear hq; first | (go_simp; done) | (go_simp; with_reducible rfl)
  simp only [Act.put, List.setIfInBounds_toArray, List.set_cons_zero, List.set_cons_succ]
  refine wpAnyH_take (i := 6) (oi := ⟨some 18, _, _, _, _, _⟩) (v := ?_) rfl (by kernel_rfl) (by kernel_rfl) (by kernel_rfl) (fun _ _ _ h => h) (Or.inl ⟨by kernel_rfl, ?_⟩) hH ?_
  rotate_left 1
  · intro wq hq; obtain ⟨r1, r34, r36, r37⟩ := HC.out wq g0 hq.1; have rc := rl_csr hq.1; have re := rl_envB hq.2; clear hq; first | (go_simp; done) | (go_simp; with_reducible rfl)
  simp only [Act.put, List.setIfInBounds_toArray, List.set_cons_zero, List.set_cons_succ]
  refine wpAnyH_ready (rs := [3]) (by kernel_rfl) (by simp) (AllReadyH.cons (o := ⟨some 15, _, _, _, _, _⟩) rfl (fun K hK => ?_) AllReadyH.nil)
  go_simp
  refine (rpend_ok h ev _).mono ?_
  obtain ⟨pe, hpe, hon⟩ := HP.out
  rw [hpe]
  clear hpe HP
  rintro e w2 ⟨rfl, hb⟩
  have HB2 := Lib.hid (HB.out.trans (((Below.refl _ w1).drew.trans hb).mono HB.out.size))
  have Q02 : Hid (w2.heap[g0]? = some (.cells (hartA h) 43 (0, 0))) := (hb.block _ (blk_lt Q0.out)).trans Q0.out
  have Q12 : Hid (w2.heap[g1]? = some (.cells (envB ev) 38 (0, 0))) := (hb.block _ (blk_lt Q1.out)).trans Q1.out
  clear hb HB Q0 Q1
  go_wp2_with fail
  refine hK.out _ _ ⟨Q02.out, Q12.out⟩ (fun hH => ?_)
  clear hK K
  try simp only [Act.put, List.setIfInBounds_toArray, List.set_cons_zero, List.set_cons_succ]
  refine wpAnyH_take (i := 7) (oi := ⟨some 19, _, _, _, _, _⟩) (v := ?_) rfl (by kernel_rfl) (by kernel_rfl) (by kernel_rfl) (fun _ _ _ h => h) (Or.inl ⟨by kernel_rfl, ?_⟩) hH ?_
  rotate_left 1
  · intro wq hq; obtain ⟨r1, r34, r36, r37⟩ := HC.out wq g0 hq.1; have rc := rl_csr hq.1; have re := rl_envB hq.2; clear hq; first | (go_simp; done) | (go_simp; with_reducible rfl)
  simp only [Act.put, List.setIfInBounds_toArray, List.set_cons_zero, List.set_cons_succ]
  refine wpAnyH_take (i := 8) (oi := ⟨some 6, _, _, _, _, _⟩) (v := ?_) rfl (by kernel_rfl) (by kernel_rfl) (by kernel_rfl) (fun _ _ _ h => h) (Or.inl ⟨by kernel_rfl, ?_⟩) hH ?_
  rotate_left 1
  · intro wq hq; obtain ⟨r1, r34, r36, r37⟩ := HC.out wq g0 hq.1; have rc := rl_csr hq.1; have re := rl_envB hq.2; clear hq; first | (go_simp; done) | (go_simp; with_reducible rfl)
  simp only [Act.put, List.setIfInBounds_toArray, List.set_cons_zero, List.set_cons_succ]
  refine wpAnyH_done (by kernel_rfl) ?_ _
  clear hH
  clear hH hon
  go_upto_region 3 with fail
  have qa : (w2.alloc (.cells #[.int .u64 11, .int .u64 3, .int .u64 7, .int .u64 9, .int .u64 1, .int .u64 5] 109)).heap[w2.heap.size]? = some (.cells #[.int .u64 11, .int .u64 3, .int .u64 7, .int .u64 9, .int .u64 1, .int .u64 5] 109 (0, 0)) := blk_alloc w2 _
  have Q03 := Lib.hid ((blk_alloc_old w2 (.cells #[.int .u64 11, .int .u64 3, .int .u64 7, .int .u64 9, .int .u64 1, .int .u64 5] 109) g0 (blk_lt Q02.out)).trans Q02.out)
  have HB3 := Lib.hid (HB2.out.trans (((Below.refl _ w2).alloc (Nat.le_refl _) (.cells #[.int .u64 11, .int .u64 3, .int .u64 7, .int .u64 9, .int .u64 1, .int .u64 5] 109)).mono HB2.out.size))
  clear HB2 Q02 Q12
  generalize w2.alloc (.cells #[.int .u64 11, .int .u64 3, .int .u64 7, .int .u64 9, .int .u64 1, .int .u64 5] 109) = w3 at *
  obtain ⟨ga, hga⟩ : ∃ g, g = w2.heap.size := ⟨_, rfl⟩
  rw [← hga] at qa ⊢
  clear hga
  go_wp2_with fail
  have a0 := blk_cell qa 0
  have a1 := blk_cell qa 1
  have a2 := blk_cell qa 2
  have a3 := blk_cell qa 3
  have a4 := blk_cell qa 4
  have a5 := blk_cell qa 5
  simp only [List.getElem?_toArray, List.getElem?_cons_zero, List.getElem?_cons_succ] at a0 a1 a2 a3 a4 a5
  clear qa
  have t11 := biteq64 on 11 2048 (by decide) hon64
  have d11 := biteq64z D 11 2048 (by decide) hD64
  have f11 := biteq64 D 11 2048 (by decide) hD64
  have t3 := biteq64 on 3 8 (by decide) hon64
  have d3 := biteq64z D 3 8 (by decide) hD64
  have f3 := biteq64 D 3 8 (by decide) hD64
  have t7 := biteq64 on 7 128 (by decide) hon64
  have d7 := biteq64z D 7 128 (by decide) hD64
  have f7 := biteq64 D 7 128 (by decide) hD64
  have t9 := biteq64 on 9 512 (by decide) hon64
  have d9 := biteq64z D 9 512 (by decide) hD64
  have f9 := biteq64 D 9 512 (by decide) hD64
  have t1 := biteq64 on 1 2 (by decide) hon64
  have d1 := biteq64z D 1 2 (by decide) hD64
  have f1 := biteq64 D 1 2 (by decide) hD64
  have t5 := biteq64 on 5 32 (by decide) hon64
  have d5 := biteq64z D 5 32 (by decide) hD64
  have f5 := biteq64 D 5 32 (by decide) hD64
  obtain ⟨o11, o3, o7, o9, o1, o5⟩ := or63
  obtain ⟨r1, r34, r36, r37⟩ := HC.out w3 g0 Q03.out
  clear HC Q03 hon64 hD64
  obtain ⟨x1, hx1⟩ : ∃ b, b = (decide (pv ≠ 3) || decide (bits .and .u64 st 8 ≠ 0)) := ⟨_, rfl⟩
  obtain ⟨x2, hx2⟩ : ∃ b, b = (decide (pv = 0) || (decide (pv = 1) && decide (bits .and .u64 st 2 ≠ 0))) := ⟨_, rfl⟩
  rw [← hx1, ← hx2] at HS
  have HX1 := Lib.hid hx1; have HX2 := Lib.hid hx2
  clear hx1 hx2
  go_loopw [8] (fun i wr => ∃ k : Nat, k ≤ 6 ∧ i = .int .i64 k ∧ (∀ j, j < k → (fun n => on.testBit n && !D.testBit n && x1) (ordL.getD j 0) = false) ∧ wr = w3) (fun i _ => 6 - (intOf i).toNat)
  case atStart => exact ⟨0, by omega, rfl, fun j hj => by omega, rfl⟩
  case round =>
    obtain ⟨k, hk, rfl, hno, rfl⟩ := hrel
    have HNO := Lib.hid hno
    clear hno
    obtain rfl | rfl | rfl | rfl | rfl | rfl | rfl : k = 0 ∨ k = 1 ∨ k = 2 ∨ k = 3 ∨ k = 4 ∨ k = 5 ∨ k = 6 := by omega
    · by_cases hb : on.testBit 11 = true
      · by_cases hd : D.testBit 11 = true
        · have hd' : (!D.testBit 11) = false := by rw [hd]; rfl
          go_wp2_with fail
          exact ⟨⟨1, by omega, rfl, no_succ (P := fun n => on.testBit n && !D.testBit n && x1) (k := 0) HNO.out (by show (on.testBit 11 && !D.testBit 11 && x1) = false; rw [hd]; simp), by simp⟩, by decide⟩
        · have hd := Bool.eq_false_iff.2 hd
          have hd' : (!D.testBit 11) = true := by rw [hd]; rfl
          by_cases hp3 : pv = 3
          · subst hp3
            by_cases h8 : bits .and .u64 st 8 = 0
            · have h8' : (bits .and .u64 st 8 != 0) = false := by rw [h8]; rfl
              go_wp2_with fail
              exact ⟨⟨1, by omega, rfl, no_succ (P := fun n => on.testBit n && !D.testBit n && x1) (k := 0) HNO.out (by show (on.testBit 11 && !D.testBit 11 && x1) = false; rw [HX1.out]; simp [h8]), by simp⟩, by decide⟩
            · have h8' : (bits .and .u64 st 8 != 0) = true := by simpa using h8
              go_wp2_with fail
              exact bodyPost_ret (results_tmp2 rfl _ _ _) rfl ⟨by rw [HS.out, selV_1 0 (by omega) HNO.out (by show (on.testBit 11 && !D.testBit 11 && x1) = true; rw [hb, hd, HX1.out]; simp [h8])]; rfl, HB3.out⟩
          · have hp3' : (pv != 3) = true := by simpa using hp3
            go_wp2_with fail
            exact bodyPost_ret (results_tmp2 rfl _ _ _) rfl ⟨by rw [HS.out, selV_1 0 (by omega) HNO.out (by show (on.testBit 11 && !D.testBit 11 && x1) = true; rw [hb, hd, HX1.out]; simp [hp3])]; rfl, HB3.out⟩
      · have hb := Bool.eq_false_iff.2 hb
        go_wp2_with fail
        exact ⟨⟨1, by omega, rfl, no_succ (P := fun n => on.testBit n && !D.testBit n && x1) (k := 0) HNO.out (by show (on.testBit 11 && !D.testBit 11 && x1) = false; rw [hb]; simp), by simp⟩, by decide⟩
    · by_cases hb : on.testBit 3 = true
      · by_cases hd : D.testBit 3 = true
        · have hd' : (!D.testBit 3) = false := by rw [hd]; rfl
          go_wp2_with fail
          exact ⟨⟨2, by omega, rfl, no_succ (P := fun n => on.testBit n && !D.testBit n && x1) (k := 1) HNO.out (by show (on.testBit 3 && !D.testBit 3 && x1) = false; rw [hd]; simp), by simp⟩, by decide⟩
        · have hd := Bool.eq_false_iff.2 hd
          have hd' : (!D.testBit 3) = true := by rw [hd]; rfl
          by_cases hp3 : pv = 3
          · subst hp3
            by_cases h8 : bits .and .u64 st 8 = 0
            · have h8' : (bits .and .u64 st 8 != 0) = false := by rw [h8]; rfl
              go_wp2_with fail
              exact ⟨⟨2, by omega, rfl, no_succ (P := fun n => on.testBit n && !D.testBit n && x1) (k := 1) HNO.out (by show (on.testBit 3 && !D.testBit 3 && x1) = false; rw [HX1.out]; simp [h8]), by simp⟩, by decide⟩
            · have h8' : (bits .and .u64 st 8 != 0) = true := by simpa using h8
              go_wp2_with fail
              exact bodyPost_ret (results_tmp2 rfl _ _ _) rfl ⟨by rw [HS.out, selV_1 1 (by omega) HNO.out (by show (on.testBit 3 && !D.testBit 3 && x1) = true; rw [hb, hd, HX1.out]; simp [h8])]; rfl, HB3.out⟩
          · have hp3' : (pv != 3) = true := by simpa using hp3
            go_wp2_with fail
            exact bodyPost_ret (results_tmp2 rfl _ _ _) rfl ⟨by rw [HS.out, selV_1 1 (by omega) HNO.out (by show (on.testBit 3 && !D.testBit 3 && x1) = true; rw [hb, hd, HX1.out]; simp [hp3])]; rfl, HB3.out⟩
      · have hb := Bool.eq_false_iff.2 hb
        go_wp2_with fail
        exact ⟨⟨2, by omega, rfl, no_succ (P := fun n => on.testBit n && !D.testBit n && x1) (k := 1) HNO.out (by show (on.testBit 3 && !D.testBit 3 && x1) = false; rw [hb]; simp), by simp⟩, by decide⟩
    · by_cases hb : on.testBit 7 = true
      · by_cases hd : D.testBit 7 = true
        · have hd' : (!D.testBit 7) = false := by rw [hd]; rfl
          go_wp2_with fail
          exact ⟨⟨3, by omega, rfl, no_succ (P := fun n => on.testBit n && !D.testBit n && x1) (k := 2) HNO.out (by show (on.testBit 7 && !D.testBit 7 && x1) = false; rw [hd]; simp), by simp⟩, by decide⟩
        · have hd := Bool.eq_false_iff.2 hd
          have hd' : (!D.testBit 7) = true := by rw [hd]; rfl
          by_cases hp3 : pv = 3
          · subst hp3
            by_cases h8 : bits .and .u64 st 8 = 0
            · have h8' : (bits .and .u64 st 8 != 0) = false := by rw [h8]; rfl
              go_wp2_with fail
              exact ⟨⟨3, by omega, rfl, no_succ (P := fun n => on.testBit n && !D.testBit n && x1) (k := 2) HNO.out (by show (on.testBit 7 && !D.testBit 7 && x1) = false; rw [HX1.out]; simp [h8]), by simp⟩, by decide⟩
            · have h8' : (bits .and .u64 st 8 != 0) = true := by simpa using h8
              go_wp2_with fail
              exact bodyPost_ret (results_tmp2 rfl _ _ _) rfl ⟨by rw [HS.out, selV_1 2 (by omega) HNO.out (by show (on.testBit 7 && !D.testBit 7 && x1) = true; rw [hb, hd, HX1.out]; simp [h8])]; rfl, HB3.out⟩
          · have hp3' : (pv != 3) = true := by simpa using hp3
            go_wp2_with fail
            exact bodyPost_ret (results_tmp2 rfl _ _ _) rfl ⟨by rw [HS.out, selV_1 2 (by omega) HNO.out (by show (on.testBit 7 && !D.testBit 7 && x1) = true; rw [hb, hd, HX1.out]; simp [hp3])]; rfl, HB3.out⟩
      · have hb := Bool.eq_false_iff.2 hb
        go_wp2_with fail
        exact ⟨⟨3, by omega, rfl, no_succ (P := fun n => on.testBit n && !D.testBit n && x1) (k := 2) HNO.out (by show (on.testBit 7 && !D.testBit 7 && x1) = false; rw [hb]; simp), by simp⟩, by decide⟩
    · by_cases hb : on.testBit 9 = true
      · by_cases hd : D.testBit 9 = true
        · have hd' : (!D.testBit 9) = false := by rw [hd]; rfl
          go_wp2_with fail
          exact ⟨⟨4, by omega, rfl, no_succ (P := fun n => on.testBit n && !D.testBit n && x1) (k := 3) HNO.out (by show (on.testBit 9 && !D.testBit 9 && x1) = false; rw [hd]; simp), by simp⟩, by decide⟩
        · have hd := Bool.eq_false_iff.2 hd
          have hd' : (!D.testBit 9) = true := by rw [hd]; rfl
          by_cases hp3 : pv = 3
          · subst hp3
            by_cases h8 : bits .and .u64 st 8 = 0
            · have h8' : (bits .and .u64 st 8 != 0) = false := by rw [h8]; rfl
              go_wp2_with fail
              exact ⟨⟨4, by omega, rfl, no_succ (P := fun n => on.testBit n && !D.testBit n && x1) (k := 3) HNO.out (by show (on.testBit 9 && !D.testBit 9 && x1) = false; rw [HX1.out]; simp [h8]), by simp⟩, by decide⟩
            · have h8' : (bits .and .u64 st 8 != 0) = true := by simpa using h8
              go_wp2_with fail
              exact bodyPost_ret (results_tmp2 rfl _ _ _) rfl ⟨by rw [HS.out, selV_1 3 (by omega) HNO.out (by show (on.testBit 9 && !D.testBit 9 && x1) = true; rw [hb, hd, HX1.out]; simp [h8])]; rfl, HB3.out⟩
          · have hp3' : (pv != 3) = true := by simpa using hp3
            go_wp2_with fail
            exact bodyPost_ret (results_tmp2 rfl _ _ _) rfl ⟨by rw [HS.out, selV_1 3 (by omega) HNO.out (by show (on.testBit 9 && !D.testBit 9 && x1) = true; rw [hb, hd, HX1.out]; simp [hp3])]; rfl, HB3.out⟩
      · have hb := Bool.eq_false_iff.2 hb
        go_wp2_with fail
        exact ⟨⟨4, by omega, rfl, no_succ (P := fun n => on.testBit n && !D.testBit n && x1) (k := 3) HNO.out (by show (on.testBit 9 && !D.testBit 9 && x1) = false; rw [hb]; simp), by simp⟩, by decide⟩
    · by_cases hb : on.testBit 1 = true
      · by_cases hd : D.testBit 1 = true
        · have hd' : (!D.testBit 1) = false := by rw [hd]; rfl
          go_wp2_with fail
          exact ⟨⟨5, by omega, rfl, no_succ (P := fun n => on.testBit n && !D.testBit n && x1) (k := 4) HNO.out (by show (on.testBit 1 && !D.testBit 1 && x1) = false; rw [hd]; simp), by simp⟩, by decide⟩
        · have hd := Bool.eq_false_iff.2 hd
          have hd' : (!D.testBit 1) = true := by rw [hd]; rfl
          by_cases hp3 : pv = 3
          · subst hp3
            by_cases h8 : bits .and .u64 st 8 = 0
            · have h8' : (bits .and .u64 st 8 != 0) = false := by rw [h8]; rfl
              go_wp2_with fail
              exact ⟨⟨5, by omega, rfl, no_succ (P := fun n => on.testBit n && !D.testBit n && x1) (k := 4) HNO.out (by show (on.testBit 1 && !D.testBit 1 && x1) = false; rw [HX1.out]; simp [h8]), by simp⟩, by decide⟩
            · have h8' : (bits .and .u64 st 8 != 0) = true := by simpa using h8
              go_wp2_with fail
              exact bodyPost_ret (results_tmp2 rfl _ _ _) rfl ⟨by rw [HS.out, selV_1 4 (by omega) HNO.out (by show (on.testBit 1 && !D.testBit 1 && x1) = true; rw [hb, hd, HX1.out]; simp [h8])]; rfl, HB3.out⟩
          · have hp3' : (pv != 3) = true := by simpa using hp3
            go_wp2_with fail
            exact bodyPost_ret (results_tmp2 rfl _ _ _) rfl ⟨by rw [HS.out, selV_1 4 (by omega) HNO.out (by show (on.testBit 1 && !D.testBit 1 && x1) = true; rw [hb, hd, HX1.out]; simp [hp3])]; rfl, HB3.out⟩
      · have hb := Bool.eq_false_iff.2 hb
        go_wp2_with fail
        exact ⟨⟨5, by omega, rfl, no_succ (P := fun n => on.testBit n && !D.testBit n && x1) (k := 4) HNO.out (by show (on.testBit 1 && !D.testBit 1 && x1) = false; rw [hb]; simp), by simp⟩, by decide⟩
    · by_cases hb : on.testBit 5 = true
      · by_cases hd : D.testBit 5 = true
        · have hd' : (!D.testBit 5) = false := by rw [hd]; rfl
          go_wp2_with fail
          exact ⟨⟨6, by omega, rfl, no_succ (P := fun n => on.testBit n && !D.testBit n && x1) (k := 5) HNO.out (by show (on.testBit 5 && !D.testBit 5 && x1) = false; rw [hd]; simp), by simp⟩, by decide⟩
        · have hd := Bool.eq_false_iff.2 hd
          have hd' : (!D.testBit 5) = true := by rw [hd]; rfl
          by_cases hp3 : pv = 3
          · subst hp3
            by_cases h8 : bits .and .u64 st 8 = 0
            · have h8' : (bits .and .u64 st 8 != 0) = false := by rw [h8]; rfl
              go_wp2_with fail
              exact ⟨⟨6, by omega, rfl, no_succ (P := fun n => on.testBit n && !D.testBit n && x1) (k := 5) HNO.out (by show (on.testBit 5 && !D.testBit 5 && x1) = false; rw [HX1.out]; simp [h8]), by simp⟩, by decide⟩
            · have h8' : (bits .and .u64 st 8 != 0) = true := by simpa using h8
              go_wp2_with fail
              exact bodyPost_ret (results_tmp2 rfl _ _ _) rfl ⟨by rw [HS.out, selV_1 5 (by omega) HNO.out (by show (on.testBit 5 && !D.testBit 5 && x1) = true; rw [hb, hd, HX1.out]; simp [h8])]; rfl, HB3.out⟩
          · have hp3' : (pv != 3) = true := by simpa using hp3
            go_wp2_with fail
            exact bodyPost_ret (results_tmp2 rfl _ _ _) rfl ⟨by rw [HS.out, selV_1 5 (by omega) HNO.out (by show (on.testBit 5 && !D.testBit 5 && x1) = true; rw [hb, hd, HX1.out]; simp [hp3])]; rfl, HB3.out⟩
      · have hb := Bool.eq_false_iff.2 hb
        go_wp2_with fail
        exact ⟨⟨6, by omega, rfl, no_succ (P := fun n => on.testBit n && !D.testBit n && x1) (k := 5) HNO.out (by show (on.testBit 5 && !D.testBit 5 && x1) = false; rw [hb]; simp), by simp⟩, by decide⟩
    · go_wp2_with fail
      go_loopw [10] (fun i wz => ∃ k : Nat, k ≤ 6 ∧ i = .int .i64 k ∧ (∀ j, j < k → (fun n => on.testBit n && D.testBit n && x2) (ordL.getD j 0) = false) ∧ wz = wr) (fun i _ => 6 - (intOf i).toNat)
      case atStart => exact ⟨0, by omega, rfl, fun j hj => by omega, rfl⟩
      case round =>
        obtain ⟨k, hk, rfl, hno, rfl⟩ := hrel
        have HN2 := Lib.hid hno
        clear hno
        obtain rfl | rfl | rfl | rfl | rfl | rfl | rfl : k = 0 ∨ k = 1 ∨ k = 2 ∨ k = 3 ∨ k = 4 ∨ k = 5 ∨ k = 6 := by omega
        · by_cases hb : on.testBit 11 = true
          · by_cases hd : D.testBit 11 = true
            · by_cases hp0 : pv = 0
              · subst hp0
                go_wp2_with fail
                exact bodyPost_ret (results_tmp2 rfl _ _ _) rfl ⟨by rw [HS.out, selV_2 HNO.out 0 (by omega) HN2.out (by show (on.testBit 11 && D.testBit 11 && x2) = true; rw [hb, hd, HX2.out]; simp)]; rfl, HB3.out⟩
              · have hp0' : (pv == 0) = false := by simpa using hp0
                by_cases hp1 : pv = 1
                · subst hp1
                  by_cases h2 : bits .and .u64 st 2 = 0
                  · have h2' : (bits .and .u64 st 2 != 0) = false := by rw [h2]; rfl
                    go_wp2_with fail
                    exact ⟨⟨1, by omega, rfl, no_succ (P := fun n => on.testBit n && D.testBit n && x2) (k := 0) HN2.out (by show (on.testBit 11 && D.testBit 11 && x2) = false; rw [HX2.out]; simp [h2]), by simp⟩, by decide⟩
                  · have h2' : (bits .and .u64 st 2 != 0) = true := by simpa using h2
                    go_wp2_with fail
                    exact bodyPost_ret (results_tmp2 rfl _ _ _) rfl ⟨by rw [HS.out, selV_2 HNO.out 0 (by omega) HN2.out (by show (on.testBit 11 && D.testBit 11 && x2) = true; rw [hb, hd, HX2.out]; simp [h2])]; rfl, HB3.out⟩
                · have hp1' : (pv == 1) = false := by simpa using hp1
                  go_wp2_with fail
                  exact ⟨⟨1, by omega, rfl, no_succ (P := fun n => on.testBit n && D.testBit n && x2) (k := 0) HN2.out (by show (on.testBit 11 && D.testBit 11 && x2) = false; rw [HX2.out]; simp [hp0, hp1]), by simp⟩, by decide⟩
            · have hd := Bool.eq_false_iff.2 hd
              go_wp2_with fail
              exact ⟨⟨1, by omega, rfl, no_succ (P := fun n => on.testBit n && D.testBit n && x2) (k := 0) HN2.out (by show (on.testBit 11 && D.testBit 11 && x2) = false; rw [hd]; simp), by simp⟩, by decide⟩
          · have hb := Bool.eq_false_iff.2 hb
            go_wp2_with fail
            exact ⟨⟨1, by omega, rfl, no_succ (P := fun n => on.testBit n && D.testBit n && x2) (k := 0) HN2.out (by show (on.testBit 11 && D.testBit 11 && x2) = false; rw [hb]; simp), by simp⟩, by decide⟩
        · by_cases hb : on.testBit 3 = true
          · by_cases hd : D.testBit 3 = true
            · by_cases hp0 : pv = 0
              · subst hp0
                go_wp2_with fail
                exact bodyPost_ret (results_tmp2 rfl _ _ _) rfl ⟨by rw [HS.out, selV_2 HNO.out 1 (by omega) HN2.out (by show (on.testBit 3 && D.testBit 3 && x2) = true; rw [hb, hd, HX2.out]; simp)]; rfl, HB3.out⟩
              · have hp0' : (pv == 0) = false := by simpa using hp0
                by_cases hp1 : pv = 1
                · subst hp1
                  by_cases h2 : bits .and .u64 st 2 = 0
                  · have h2' : (bits .and .u64 st 2 != 0) = false := by rw [h2]; rfl
                    go_wp2_with fail
                    exact ⟨⟨2, by omega, rfl, no_succ (P := fun n => on.testBit n && D.testBit n && x2) (k := 1) HN2.out (by show (on.testBit 3 && D.testBit 3 && x2) = false; rw [HX2.out]; simp [h2]), by simp⟩, by decide⟩
                  · have h2' : (bits .and .u64 st 2 != 0) = true := by simpa using h2
                    go_wp2_with fail
                    exact bodyPost_ret (results_tmp2 rfl _ _ _) rfl ⟨by rw [HS.out, selV_2 HNO.out 1 (by omega) HN2.out (by show (on.testBit 3 && D.testBit 3 && x2) = true; rw [hb, hd, HX2.out]; simp [h2])]; rfl, HB3.out⟩
                · have hp1' : (pv == 1) = false := by simpa using hp1
                  go_wp2_with fail
                  exact ⟨⟨2, by omega, rfl, no_succ (P := fun n => on.testBit n && D.testBit n && x2) (k := 1) HN2.out (by show (on.testBit 3 && D.testBit 3 && x2) = false; rw [HX2.out]; simp [hp0, hp1]), by simp⟩, by decide⟩
            · have hd := Bool.eq_false_iff.2 hd
              go_wp2_with fail
              exact ⟨⟨2, by omega, rfl, no_succ (P := fun n => on.testBit n && D.testBit n && x2) (k := 1) HN2.out (by show (on.testBit 3 && D.testBit 3 && x2) = false; rw [hd]; simp), by simp⟩, by decide⟩
          · have hb := Bool.eq_false_iff.2 hb
            go_wp2_with fail
            exact ⟨⟨2, by omega, rfl, no_succ (P := fun n => on.testBit n && D.testBit n && x2) (k := 1) HN2.out (by show (on.testBit 3 && D.testBit 3 && x2) = false; rw [hb]; simp), by simp⟩, by decide⟩
        · by_cases hb : on.testBit 7 = true
          · by_cases hd : D.testBit 7 = true
            · by_cases hp0 : pv = 0
              · subst hp0
                go_wp2_with fail
                exact bodyPost_ret (results_tmp2 rfl _ _ _) rfl ⟨by rw [HS.out, selV_2 HNO.out 2 (by omega) HN2.out (by show (on.testBit 7 && D.testBit 7 && x2) = true; rw [hb, hd, HX2.out]; simp)]; rfl, HB3.out⟩
              · have hp0' : (pv == 0) = false := by simpa using hp0
                by_cases hp1 : pv = 1
                · subst hp1
                  by_cases h2 : bits .and .u64 st 2 = 0
                  · have h2' : (bits .and .u64 st 2 != 0) = false := by rw [h2]; rfl
                    go_wp2_with fail
                    exact ⟨⟨3, by omega, rfl, no_succ (P := fun n => on.testBit n && D.testBit n && x2) (k := 2) HN2.out (by show (on.testBit 7 && D.testBit 7 && x2) = false; rw [HX2.out]; simp [h2]), by simp⟩, by decide⟩
                  · have h2' : (bits .and .u64 st 2 != 0) = true := by simpa using h2
                    go_wp2_with fail
                    exact bodyPost_ret (results_tmp2 rfl _ _ _) rfl ⟨by rw [HS.out, selV_2 HNO.out 2 (by omega) HN2.out (by show (on.testBit 7 && D.testBit 7 && x2) = true; rw [hb, hd, HX2.out]; simp [h2])]; rfl, HB3.out⟩
                · have hp1' : (pv == 1) = false := by simpa using hp1
                  go_wp2_with fail
                  exact ⟨⟨3, by omega, rfl, no_succ (P := fun n => on.testBit n && D.testBit n && x2) (k := 2) HN2.out (by show (on.testBit 7 && D.testBit 7 && x2) = false; rw [HX2.out]; simp [hp0, hp1]), by simp⟩, by decide⟩
            · have hd := Bool.eq_false_iff.2 hd
              go_wp2_with fail
              exact ⟨⟨3, by omega, rfl, no_succ (P := fun n => on.testBit n && D.testBit n && x2) (k := 2) HN2.out (by show (on.testBit 7 && D.testBit 7 && x2) = false; rw [hd]; simp), by simp⟩, by decide⟩
          · have hb := Bool.eq_false_iff.2 hb
            go_wp2_with fail
            exact ⟨⟨3, by omega, rfl, no_succ (P := fun n => on.testBit n && D.testBit n && x2) (k := 2) HN2.out (by show (on.testBit 7 && D.testBit 7 && x2) = false; rw [hb]; simp), by simp⟩, by decide⟩
        · by_cases hb : on.testBit 9 = true
          · by_cases hd : D.testBit 9 = true
            · by_cases hp0 : pv = 0
              · subst hp0
                go_wp2_with fail
                exact bodyPost_ret (results_tmp2 rfl _ _ _) rfl ⟨by rw [HS.out, selV_2 HNO.out 3 (by omega) HN2.out (by show (on.testBit 9 && D.testBit 9 && x2) = true; rw [hb, hd, HX2.out]; simp)]; rfl, HB3.out⟩
              · have hp0' : (pv == 0) = false := by simpa using hp0
                by_cases hp1 : pv = 1
                · subst hp1
                  by_cases h2 : bits .and .u64 st 2 = 0
                  · have h2' : (bits .and .u64 st 2 != 0) = false := by rw [h2]; rfl
                    go_wp2_with fail
                    exact ⟨⟨4, by omega, rfl, no_succ (P := fun n => on.testBit n && D.testBit n && x2) (k := 3) HN2.out (by show (on.testBit 9 && D.testBit 9 && x2) = false; rw [HX2.out]; simp [h2]), by simp⟩, by decide⟩
                  · have h2' : (bits .and .u64 st 2 != 0) = true := by simpa using h2
                    go_wp2_with fail
                    exact bodyPost_ret (results_tmp2 rfl _ _ _) rfl ⟨by rw [HS.out, selV_2 HNO.out 3 (by omega) HN2.out (by show (on.testBit 9 && D.testBit 9 && x2) = true; rw [hb, hd, HX2.out]; simp [h2])]; rfl, HB3.out⟩
                · have hp1' : (pv == 1) = false := by simpa using hp1
                  go_wp2_with fail
                  exact ⟨⟨4, by omega, rfl, no_succ (P := fun n => on.testBit n && D.testBit n && x2) (k := 3) HN2.out (by show (on.testBit 9 && D.testBit 9 && x2) = false; rw [HX2.out]; simp [hp0, hp1]), by simp⟩, by decide⟩
            · have hd := Bool.eq_false_iff.2 hd
              go_wp2_with fail
              exact ⟨⟨4, by omega, rfl, no_succ (P := fun n => on.testBit n && D.testBit n && x2) (k := 3) HN2.out (by show (on.testBit 9 && D.testBit 9 && x2) = false; rw [hd]; simp), by simp⟩, by decide⟩
          · have hb := Bool.eq_false_iff.2 hb
            go_wp2_with fail
            exact ⟨⟨4, by omega, rfl, no_succ (P := fun n => on.testBit n && D.testBit n && x2) (k := 3) HN2.out (by show (on.testBit 9 && D.testBit 9 && x2) = false; rw [hb]; simp), by simp⟩, by decide⟩
        · by_cases hb : on.testBit 1 = true
          · by_cases hd : D.testBit 1 = true
            · by_cases hp0 : pv = 0
              · subst hp0
                go_wp2_with fail
                exact bodyPost_ret (results_tmp2 rfl _ _ _) rfl ⟨by rw [HS.out, selV_2 HNO.out 4 (by omega) HN2.out (by show (on.testBit 1 && D.testBit 1 && x2) = true; rw [hb, hd, HX2.out]; simp)]; rfl, HB3.out⟩
              · have hp0' : (pv == 0) = false := by simpa using hp0
                by_cases hp1 : pv = 1
                · subst hp1
                  by_cases h2 : bits .and .u64 st 2 = 0
                  · have h2' : (bits .and .u64 st 2 != 0) = false := by rw [h2]; rfl
                    go_wp2_with fail
                    exact ⟨⟨5, by omega, rfl, no_succ (P := fun n => on.testBit n && D.testBit n && x2) (k := 4) HN2.out (by show (on.testBit 1 && D.testBit 1 && x2) = false; rw [HX2.out]; simp [h2]), by simp⟩, by decide⟩
                  · have h2' : (bits .and .u64 st 2 != 0) = true := by simpa using h2
                    go_wp2_with fail
                    exact bodyPost_ret (results_tmp2 rfl _ _ _) rfl ⟨by rw [HS.out, selV_2 HNO.out 4 (by omega) HN2.out (by show (on.testBit 1 && D.testBit 1 && x2) = true; rw [hb, hd, HX2.out]; simp [h2])]; rfl, HB3.out⟩
                · have hp1' : (pv == 1) = false := by simpa using hp1
                  go_wp2_with fail
                  exact ⟨⟨5, by omega, rfl, no_succ (P := fun n => on.testBit n && D.testBit n && x2) (k := 4) HN2.out (by show (on.testBit 1 && D.testBit 1 && x2) = false; rw [HX2.out]; simp [hp0, hp1]), by simp⟩, by decide⟩
            · have hd := Bool.eq_false_iff.2 hd
              go_wp2_with fail
              exact ⟨⟨5, by omega, rfl, no_succ (P := fun n => on.testBit n && D.testBit n && x2) (k := 4) HN2.out (by show (on.testBit 1 && D.testBit 1 && x2) = false; rw [hd]; simp), by simp⟩, by decide⟩
          · have hb := Bool.eq_false_iff.2 hb
            go_wp2_with fail
            exact ⟨⟨5, by omega, rfl, no_succ (P := fun n => on.testBit n && D.testBit n && x2) (k := 4) HN2.out (by show (on.testBit 1 && D.testBit 1 && x2) = false; rw [hb]; simp), by simp⟩, by decide⟩
        · by_cases hb : on.testBit 5 = true
          · by_cases hd : D.testBit 5 = true
            · by_cases hp0 : pv = 0
              · subst hp0
                go_wp2_with fail
                exact bodyPost_ret (results_tmp2 rfl _ _ _) rfl ⟨by rw [HS.out, selV_2 HNO.out 5 (by omega) HN2.out (by show (on.testBit 5 && D.testBit 5 && x2) = true; rw [hb, hd, HX2.out]; simp)]; rfl, HB3.out⟩
              · have hp0' : (pv == 0) = false := by simpa using hp0
                by_cases hp1 : pv = 1
                · subst hp1
                  by_cases h2 : bits .and .u64 st 2 = 0
                  · have h2' : (bits .and .u64 st 2 != 0) = false := by rw [h2]; rfl
                    go_wp2_with fail
                    exact ⟨⟨6, by omega, rfl, no_succ (P := fun n => on.testBit n && D.testBit n && x2) (k := 5) HN2.out (by show (on.testBit 5 && D.testBit 5 && x2) = false; rw [HX2.out]; simp [h2]), by simp⟩, by decide⟩
                  · have h2' : (bits .and .u64 st 2 != 0) = true := by simpa using h2
                    go_wp2_with fail
                    exact bodyPost_ret (results_tmp2 rfl _ _ _) rfl ⟨by rw [HS.out, selV_2 HNO.out 5 (by omega) HN2.out (by show (on.testBit 5 && D.testBit 5 && x2) = true; rw [hb, hd, HX2.out]; simp [h2])]; rfl, HB3.out⟩
                · have hp1' : (pv == 1) = false := by simpa using hp1
                  go_wp2_with fail
                  exact ⟨⟨6, by omega, rfl, no_succ (P := fun n => on.testBit n && D.testBit n && x2) (k := 5) HN2.out (by show (on.testBit 5 && D.testBit 5 && x2) = false; rw [HX2.out]; simp [hp0, hp1]), by simp⟩, by decide⟩
            · have hd := Bool.eq_false_iff.2 hd
              go_wp2_with fail
              exact ⟨⟨6, by omega, rfl, no_succ (P := fun n => on.testBit n && D.testBit n && x2) (k := 5) HN2.out (by show (on.testBit 5 && D.testBit 5 && x2) = false; rw [hd]; simp), by simp⟩, by decide⟩
          · have hb := Bool.eq_false_iff.2 hb
            go_wp2_with fail
            exact ⟨⟨6, by omega, rfl, no_succ (P := fun n => on.testBit n && D.testBit n && x2) (k := 5) HN2.out (by show (on.testBit 5 && D.testBit 5 && x2) = false; rw [hb]; simp), by simp⟩, by decide⟩
        · go_wp2_with fail
          exact bodyPost_ret (results_tmp2 rfl _ _ _) rfl ⟨by rw [HS.out, selV_0 HNO.out HN2.out]; rfl, HB3.out⟩
end Go.Proofs.YtkogjjeoihnjpaaGreat
end
