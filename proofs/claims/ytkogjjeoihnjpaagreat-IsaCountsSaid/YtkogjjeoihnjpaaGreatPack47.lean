/- IsaCounts: the walk. No condition. -/
import Derived.Test.YtkogjjeoihnjpaaGreatPack40
import Derived.Test.YtkogjjeoihnjpaaGreatPack36
import Derived.StillTailTactics
import Derived.BigRegion
import Derived.Deep.RegionWith
import Derived.Deep.RegionHeld3
import Derived.Deep.QuietTactic
import Derived.BigQuiet
import Derived.Deep.LoopGhost
import Derived.Deep.DeepCutAuto
import Derived.Deep.DeepFit
import Derived.Deep.DeepMust
import Derived.Handy
section
set_option linter.unusedVariables false
set_option linter.unusedSimpArgs false
namespace Go.Proofs.YtkogjjeoihnjpaaGreat
open Go.RowKit Sx
set_option maxRecDepth 100000
def tlN : Nat → List Int → List Int
  | 0, l => l
  | n + 1, l => tlN n l.tail
theorem tlN_get : ∀ (n j : Nat) (l : List Int), (tlN n l).getD j 0 = l.getD (n + j) 0
  | 0, j, l => by rw [Nat.zero_add]; rfl
  | n + 1, j, l => by
    show (tlN n l.tail).getD j 0 = _
    rw [tlN_get n j l.tail]
    cases l with
    | nil => simp
    | cons a l => rw [show n + 1 + j = (n + j) + 1 by omega]; simp [List.getD]
/-- a hart's control registers -/
def csrA (h : List Int) : Array Value := (cksV csrC (tlN 34 h)).toArray
theorem rf_csr (h : List Int) (w : World) : (Instr.field 43 (.agg (hartA h)) 3).run Tryz.prog w = .ok (.agg (csrA h)) w := by kernel_rfl
theorem csrA_size (h : List Int) : (csrA h).size = 30 := by simp only [csrA, List.size_toArray, cksV_len]; rfl
theorem csrA_ok (h : List Int) : stOk 30 (csrA h) = true := by
  show ((csrA h).size == 30 && (csrA h).all (·.oneCell')) = true
  rw [show (csrA h).all (·.oneCell') = true from all_oneCell_toArray (cksV_one csrC _)]
  simp only [csrA, List.size_toArray, cksV_len]
  rfl
theorem csrC_get (j : Nat) (h : j < 30) : csrC[j]? = some cu := by
  have : (List.range 30).all (fun j => decide (csrC[j]? = some cu)) = true := by kernel_rfl
  exact of_decide_eq_true (List.all_eq_true.1 this j (List.mem_range.2 h))
theorem csr_cell {w : World} {g : Nat} {h : List Int} {T : TypeId} (hg : w.heap[g]? = some (.cells (csrA h) T (0, 0))) {j : Nat} (hj : j < 30) : w.cell? ⟨g, j, none⟩ = some (.int .u64 (h.getD (34 + j) 0)) := by
  rw [blk_cell hg j]
  simp only [csrA, List.getElem?_toArray]
  rw [cksV_get csrC _ j cu (csrC_get j hj), tlN_get]; rfl
theorem st_csr (x v : Value) : Instr.storeAt 41 x v = storeS 41 x v := rfl
theorem rs_csr (w : World) (g : Nat) (C : Array Value) (h : rowIs w g 30 = true) (hC : stOk 30 C = true) : (storeS 41 (.pointer (some ⟨g, 0, none⟩)) (.agg C)).run Tryz.prog w = .ok () (w.setRow g C) :=
  run_storeS' Tryz.prog 41 30 (by kernel_rfl) w g C h hC
theorem and127 {I : Int} (h : 0 ≤ I ∧ I < 4294967296) : bits .and .u32 I 127 = I % 128 := by
  obtain ⟨n, rfl⟩ : ∃ n : Nat, I = n := ⟨I.toNat, by omega⟩
  have := and32 n 127 (by omega) (by omega)
  rw [show ((127 : Nat) : Int) = 127 from rfl] at this
  rw [this, Nat.and_two_pow_sub_one_eq_mod n 7]
  omega
theorem and7s {I : Int} (h : 0 ≤ I ∧ I < 4294967296) : bits .and .u32 (I / 4096) 7 = I / 4096 % 8 := by
  obtain ⟨n, hn⟩ : ∃ n : Nat, I / 4096 = n := ⟨(I / 4096).toNat, by omega⟩
  rw [hn]
  have := and32 n 7 (by omega) (by omega)
  rw [show ((7 : Nat) : Int) = 7 from rfl] at this
  rw [this, Nat.and_two_pow_sub_one_eq_mod n 3]
  omega
theorem and4n (n : Nat) : n &&& 4 = 4 * (n / 4 % 2) := by
  have ht : n.testBit 2 = decide (n / 4 % 2 = 1) := Nat.testBit_eq_decide_div_mod_eq
  refine Nat.eq_of_testBit_eq fun i => ?_
  rw [Nat.testBit_and, show (4 : Nat) = 2 ^ 2 from rfl, Nat.testBit_two_pow]
  rcases Nat.mod_two_eq_zero_or_one (n / 2 ^ 2) with h | h
  · rw [h]
    by_cases hi : 2 = i
    · subst hi; simp only [ht]; simp [show n / 4 % 2 = 0 from h]
    · simp [hi]
  · rw [h]
    by_cases hi : 2 = i
    · subst hi; simp only [ht]; simp [show n / 4 % 2 = 1 from h]; decide
    · rw [decide_eq_false hi, Bool.and_false, Nat.mul_one, Nat.testBit_two_pow, decide_eq_false hi]
theorem and4 {x : Int} (h : 0 ≤ x ∧ x < 18446744073709551616) : bits .and .u64 x 4 = 4 * (x / 4 % 2) := by
  obtain ⟨n, rfl⟩ : ∃ n : Nat, x = n := ⟨x.toNat, by omega⟩
  have := u64_and_nat n 4 (by omega) (by omega)
  rw [show ((4 : Nat) : Int) = 4 from rfl] at this
  rw [this, and4n]
  omega
theorem cnt_no {I TR x0 x1 n0 n1 w : Int} (hc : (I % 128 = 115 ∧ I / 4096 % 4 ≠ 0 ∧ I / 1048576 = 2818) ∨ (x0 / 4 % 2 = x1 / 4 % 2 → n1 = if TR = 1 ∨ x0 / 4 % 2 = 1 then n0 else w)) :
    ¬ (I % 128 = 115 ∧ I / 4096 % 8 ≠ 0 ∧ I / 1048576 = 2818) → x0 / 4 % 2 = x1 / 4 % 2 → ((TR = 1 ∨ x0 / 4 % 2 = 1) ∧ n1 = n0) ∨ (TR ≠ 1 ∧ x0 / 4 % 2 ≠ 1 ∧ n1 = w) := by
  intro h1 h2
  rcases hc with hc | hc
  · exact absurd ⟨hc.1, by omega, hc.2.2⟩ h1
  · have := hc h2
    split at this
    · exact .inl ⟨by assumption, this⟩
    · rename_i hn
      exact .inr ⟨fun e => hn (.inl e), fun e => hn (.inr e), this⟩
attribute [local go_sem ↓] st_csr
attribute [local go_sem] rs_csr csrA_ok csrA_size rf_csr
attribute [local go_sem ↓] st_rec st_hart ld_hart ld_env
attribute [local go_sem] rs_rec rs_hart rl_hart recA_ok hartA_ok recA_size hartA_size row_alloc row_drew row_drewN is_alloc is_drew is_drewN row_setCell is_setCell setRow_alloc_new objRow_cells objIs_cells row_setRow_same row_setRow_other is_setRow_same is_setRow_other
set_option maxHeartbeats 8000000 in
theorem isa_counts_walk (W : World) (n : Int) (a : Option Addr) (m c : Nat) (l : List Int) (hl : IsB W a m l) (hin : ∀ b o s, a = some ⟨b, o, s⟩ → b < W.heap.size) (hmc : m ≤ c) (ea : Option Addr) (em ec : Nat) (evs : Nat → List Int) (hev : EnvRow W ea em evs) (hem : (em : Int) ≤ 9223372036854775807) :
    Calls Tryz.prog 4 #[.int .i64 n, .slice a m c, .slice ea em ec] W fun e w' => e = .returned (.bool true) ∧ Below W.heap.size W w' := by
  have HMADE : Hid (∃ k l', Calls Tryz.prog 14 #[.int .i64 n, .slice a m c] W (MadeIs W (pagesN n) l' k)) := by
    by_cases hm : (m : Int) ≤ 16384
    · exact ⟨m, l, made_short n a m c W l hl hin hm⟩
    · exact ⟨16384, l.take 16384, made_long n a m c W l hl hin (by omega) hmc⟩
  have HEV := Lib.hid hev
  have HM := Lib.hid (show (em : Int) ≤ 9223372036854775807 by omega)
  clear hl hin hmc hev hem
  obtain ⟨k0, l0, hmade⟩ := HMADE.out
  go_enter Tryz.func4, Tryz.ntmps4
  go_wp2_with fail
  refine hmade.mono ?_
  rintro e w1 ⟨q, p, b, mq, sb, S, rfl, hpair, hb⟩
  have HK := Lib.hid (Keep.of hpair hb)
  clear hpair hb hmade HMADE
  generalize pagesN n = N at *
  go_wp2_with fail
  refine (isa_awake _).mono ?_
  rintro e w2 ⟨rfl, hb⟩
  have HK2 := Lib.hid (HK.out.on hb)
  clear hb HK
  go_wp2_with fail
  go_loopw [8] (fun i wr => ∃ (k : Nat) (S : Nat → Prop) (h : List Int) (ct : Nat → Nat), (k : Int) ≤ em ∧ (k : Int) ≤ 200 ∧ i = .int .i64 k ∧ Keep W wr N q mq p b S h ct) (fun i _ => 200 - (intOf i).toNat)
  case atStart => exact ⟨0, S, _, _, by omega, by omega, rfl, HK2.out⟩
  case round =>
    obtain ⟨k, S1, h, ct, hk1, hk2, rfl, hkeep⟩ := hrel
    have HK3 := Lib.hid hkeep
    clear hkeep HK2
    by_cases hlt : (k : Int) < em
    · by_cases hlt2 : (k : Int) < 200
      · clear hk1 hk2
        obtain ⟨he, eb, eo, rfl, heb, her⟩ := HEV.out k (by omega)
        have HE := Lib.hid he
        have HRNG : Hid (∀ wq, Below W.heap.size W wq → wq.rangeAt eb (eo + k * 10) (cksV envC (evs k))) := fun wq hb => rangeAt_below her heb hb
        have HEB : Hid (eb < W.heap.size) := heb
        clear he heb her
        have r0 : wr.cell? ⟨q, 0, none⟩ = some (.pointer (some ⟨p, 0, none⟩)) := blk_cell HK3.out.pair 0
        go_wp2_with fail
        refine (mach_hart HK3.out.mach).mono ?_
        rintro e w4 ⟨rfl, hb⟩
        have HK4 := Lib.hid (HK3.out.on hb)
        clear hb HK3 r0
        rw [show (cksV hartC h).toArray = hartA h from rfl]
        go_wp2_with fail
        have HH := Lib.hid HK4.out.hart
        have HW : Hid ((w4.alloc (.cells (csrA h) 41)).heap[w4.heap.size]? = some (.cells (csrA h) 41 (0, 0))) := blk_alloc _ _
        have HW9 : Hid (w4.heap.size ≠ p ∧ w4.heap.size ≠ b ∧ ¬ S1 w4.heap.size) := by
          obtain ⟨l1, l2, l3, l4⟩ := HK4.out.lt
          exact ⟨by omega, by omega, fun hs => by have := l4 _ hs; omega⟩
        have HK4' := Lib.hid (HK4.out.on ((Below.refl _ _).alloc (Nat.le_refl _) (.cells (csrA h) 41)))
        clear HK4
        have HK4 := HK4'
        clear HK4'
        obtain ⟨g9, hg9⟩ : ∃ g, g = w4.heap.size := ⟨_, rfl⟩
        rw [← hg9] at HW HW9 ⊢
        generalize w4.alloc (.cells (csrA h) 41) = wv at *
        clear hg9
        clear w4
        obtain ⟨w4, hw4⟩ : ∃ v, v = wv := ⟨_, rfl⟩
        subst hw4
        refine wp_region_held_drew (S := fun wq => wq.heap[q]? = some (.cells #[.pointer (some ⟨p, 0, none⟩), .pointer (some ⟨mq, 0, none⟩)] 34 (0, 0)) ∧ wq.rangeAt eb (eo + k * 10) (cksV envC (evs k))) (by kernel_rfl) ⟨HK4.out.pair, HRNG.out _ HK4.out.below.drew⟩ (fun hH => ?_)
        refine wpAnyH_take (i := 0) (oi := ⟨some 38, _, _, _, _, _⟩) (v := ?_) rfl (by kernel_rfl) (by kernel_rfl) (by kernel_rfl) (fun _ _ _ h => h) (Or.inl ⟨by kernel_rfl, ?_⟩) hH ?_
        rotate_left 1
        · intro wq hq; have r0 : wq.cell? ⟨q, 0, none⟩ = some (.pointer (some ⟨p, 0, none⟩)) := blk_cell hq.1 0; have r1 := rl_env hq.2; clear hq; first | (go_simp; done) | (go_simp; with_reducible rfl)
        simp only [Act.put, List.setIfInBounds_toArray, List.set_cons_zero, List.set_cons_succ]
        refine wpAnyH_take (i := 1) (oi := ⟨some 39, _, _, _, _, _⟩) (v := ?_) rfl (by kernel_rfl) (by kernel_rfl) (by kernel_rfl) (fun _ _ _ h => h) (Or.inl ⟨by kernel_rfl, ?_⟩) hH ?_
        rotate_left 1
        · intro wq hq; have r0 : wq.cell? ⟨q, 0, none⟩ = some (.pointer (some ⟨p, 0, none⟩)) := blk_cell hq.1 0; have r1 := rl_env hq.2; clear hq; first | (go_simp; done) | (go_simp; with_reducible rfl)
        simp only [Act.put, List.setIfInBounds_toArray, List.set_cons_zero, List.set_cons_succ]
        refine wpAnyH_take (i := 2) (oi := ⟨some 40, _, _, _, _, _⟩) (v := ?_) rfl (by kernel_rfl) (by kernel_rfl) (by kernel_rfl) (fun _ _ _ h => h) (Or.inl ⟨by kernel_rfl, ?_⟩) hH ?_
        rotate_left 1
        · intro wq hq; have r0 : wq.cell? ⟨q, 0, none⟩ = some (.pointer (some ⟨p, 0, none⟩)) := blk_cell hq.1 0; have r1 := rl_env hq.2; clear hq; first | (go_simp; done) | (go_simp; with_reducible rfl)
        simp only [Act.put, List.setIfInBounds_toArray, List.set_cons_zero, List.set_cons_succ]
        refine wpAnyH_take (i := 3) (oi := ⟨some 41, _, _, _, _, _⟩) (v := ?_) rfl (by kernel_rfl) (by kernel_rfl) (by kernel_rfl) (fun _ _ _ h => h) (Or.inl ⟨by kernel_rfl, ?_⟩) hH ?_
        rotate_left 1
        · intro wq hq; have r0 : wq.cell? ⟨q, 0, none⟩ = some (.pointer (some ⟨p, 0, none⟩)) := blk_cell hq.1 0; have r1 := rl_env hq.2; clear hq; first | (go_simp; done) | (go_simp; with_reducible rfl)
        simp only [Act.put, List.setIfInBounds_toArray, List.set_cons_zero, List.set_cons_succ]
        refine wpAnyH_take (i := 4) (oi := ⟨some 42, _, _, _, _, _⟩) (v := ?_) rfl (by kernel_rfl) (by kernel_rfl) (by kernel_rfl) (fun _ _ _ h => h) (Or.inl ⟨by kernel_rfl, ?_⟩) hH ?_
        rotate_left 1
        · intro wq hq; have r0 : wq.cell? ⟨q, 0, none⟩ = some (.pointer (some ⟨p, 0, none⟩)) := blk_cell hq.1 0; have r1 := rl_env hq.2; clear hq; first | (go_simp; done) | (go_simp; with_reducible rfl)
        simp only [Act.put, List.setIfInBounds_toArray, List.set_cons_zero, List.set_cons_succ]
        refine wpAnyH_take (i := 5) (oi := ⟨some 43, _, _, _, _, _⟩) (v := ?_) rfl (by kernel_rfl) (by kernel_rfl) (by kernel_rfl) (fun _ _ _ h => h) (Or.inl ⟨by kernel_rfl, ?_⟩) hH ?_
        rotate_left 1
        · intro wq hq; have r0 : wq.cell? ⟨q, 0, none⟩ = some (.pointer (some ⟨p, 0, none⟩)) := blk_cell hq.1 0; have r1 := rl_env hq.2; clear hq; first | (go_simp; done) | (go_simp; with_reducible rfl)
        simp only [Act.put, List.setIfInBounds_toArray, List.set_cons_zero, List.set_cons_succ]
        refine wpAnyH_take (i := 6) (oi := ⟨some 44, _, _, _, _, _⟩) (v := ?_) rfl (by kernel_rfl) (by kernel_rfl) (by kernel_rfl) (fun _ _ _ h => h) (Or.inl ⟨by kernel_rfl, ?_⟩) hH ?_
        rotate_left 1
        · intro wq hq; have r0 : wq.cell? ⟨q, 0, none⟩ = some (.pointer (some ⟨p, 0, none⟩)) := blk_cell hq.1 0; have r1 := rl_env hq.2; clear hq; first | (go_simp; done) | (go_simp; with_reducible rfl)
        simp only [Act.put, List.setIfInBounds_toArray, List.set_cons_zero, List.set_cons_succ]
        refine wpAnyH_take (i := 7) (oi := ⟨some 45, _, _, _, _, _⟩) (v := ?_) rfl (by kernel_rfl) (by kernel_rfl) (by kernel_rfl) (fun _ _ _ h => h) (Or.inl ⟨by kernel_rfl, ?_⟩) hH ?_
        rotate_left 1
        · intro wq hq; have r0 : wq.cell? ⟨q, 0, none⟩ = some (.pointer (some ⟨p, 0, none⟩)) := blk_cell hq.1 0; have r1 := rl_env hq.2; clear hq; first | (go_simp; done) | (go_simp; with_reducible rfl)
        simp only [Act.put, List.setIfInBounds_toArray, List.set_cons_zero, List.set_cons_succ]
        refine wpAnyH_ready (rs := [8, 9]) (by kernel_rfl) (by simp) (AllReadyH.cons (o := ⟨some 46, _, _, _, _, _⟩) rfl (fun K hK => ?_) (AllReadyH.cons (o := ⟨some 10, _, _, _, _, _⟩) rfl (fun K hK => ?_) (AllReadyH.nil)))
        · go_simp
          refine ((HK4.out.on (by first | exact (Below.refl _ _).drew | exact (Below.refl _ _).drew.alloc (Nat.le_refl _) _ | exact ((Below.refl _ _).alloc (Nat.le_refl _) _).drew)).step HE.out).mono ?_
          rintro e w5 ⟨F, S2, hF, rfl, hf, hk5, hS2, ht5⟩
          try (have hzb := (ht5.block w4.heap.size (by simp) (by obtain ⟨l1, l2, l3, l4⟩ := HK4.out.lt; rintro (e | e | e); (· omega); (· omega); have := l4 _ e; omega)).trans (blk_alloc w4.drew _); have hz : rowIs w5 w4.heap.size 12 = true := rowIs_of hzb)
          have HW5 : Hid (w5.heap[g9]? = some (.cells (csrA h) 41 (0, 0))) := (ht5.block g9 (by have := blk_lt HW.out; simp; omega) (by obtain ⟨l1, l2, l3⟩ := HW9.out; rintro (e | e | e); (· exact l1 e); (· exact l2 e); exact l3 e)).trans (by first | exact HW.out | exact (blk_alloc_old _ _ _ (blk_lt HW.out)).trans HW.out)
          have HF := Lib.hid hf; have HK5 := Lib.hid hk5; have HS2 := Lib.hid hS2
          try (have HKB := Lib.hid (hk5.setRow (g := w4.heap.size) (recA (List.drop 66 F)) (by have := HK4.out.lt.1; omega) (by have := HK4.out.lt.2.1; omega) (by have := HK4.out.lt.2.2.1; omega) (fun h => by rcases hS2 _ h with h1 | h1; (· have := HK4.out.lt.2.2.2 _ h1; omega); simp at h1; omega) HK4.out.below.size))
          clear hf hk5 hS2 ht5 hF
          go_wp2_with fail
          refine hK.out _ _ ⟨HK5.out.pair, HRNG.out _ HK5.out.below⟩ (fun hH => ?_)
          clear hK K
          try simp only [Act.put, List.setIfInBounds_toArray, List.set_cons_zero, List.set_cons_succ]
          refine wpAnyH_ready (rs := [9]) (by kernel_rfl) (by simp) (AllReadyH.cons (o := ⟨some 10, _, _, _, _, _⟩) rfl (fun K hK => ?_) (AllReadyH.nil))
          go_simp
          refine hK.out _ _ (by first | exact ⟨(HK5.out.on ((Below.refl _ _).alloc (Nat.le_refl _) _)).pair, HRNG.out _ (HK5.out.on ((Below.refl _ _).alloc (Nat.le_refl _) _)).below⟩ | exact ⟨(HK4.out.on ((Below.refl _ _).drew.alloc (Nat.le_refl _) _)).pair, HRNG.out _ (HK4.out.on ((Below.refl _ _).drew.alloc (Nat.le_refl _) _)).below⟩) (fun hH => ?_)
          clear hK K
          try simp only [Act.put, List.setIfInBounds_toArray, List.set_cons_zero, List.set_cons_succ]
          refine wpAnyH_ready (rs := [10]) (by kernel_rfl) (by simp) (AllReadyH.cons (o := ⟨none, _, _, _, _, _⟩) rfl (fun K hK => ?_) (AllReadyH.nil))
          go_simp
          refine hK.out _ _ (by first | exact ⟨(HK5.out.on ((Below.refl _ _).alloc (Nat.le_refl _) _)).pair, HRNG.out _ (HK5.out.on ((Below.refl _ _).alloc (Nat.le_refl _) _)).below⟩ | exact ⟨HKB.out.pair, HRNG.out _ HKB.out.below⟩) (fun hH => ?_)
          clear hK K
          try simp only [Act.put, List.setIfInBounds_toArray, List.set_cons_zero, List.set_cons_succ]
          refine wpAnyH_done (by kernel_rfl) ?_ _
          clear hH
          have HK6 : Hid (Keep W (w5.alloc (.cells (recA (List.drop 66 F)) 30)) N q mq p b S2 (F.take 66) (putsL N ct (F.drop 78))) := HK5.out.on ((Below.refl _ _).alloc (Nat.le_refl _) _)
          have HREC : Hid ((w5.alloc (.cells (recA (List.drop 66 F)) 30)).heap[w5.heap.size]? = some (.cells (recA (F.drop 66)) 30 (0, 0))) := blk_alloc _ _
          have HW6 : Hid ((w5.alloc (.cells (recA (List.drop 66 F)) 30)).heap[g9]? = some (.cells (csrA h) 41 (0, 0))) := (blk_alloc_old _ _ _ (blk_lt HW5.out)).trans HW5.out
          generalize w5.alloc (.cells (recA (List.drop 66 F)) 30) = w6 at *
          obtain ⟨g10, hg10⟩ : ∃ g, g = w5.heap.size := ⟨_, rfl⟩
          rw [← hg10] at HREC ⊢
          clear hg10
          clear HK5 HS2 HK4 HW HW5 HW9 
          have c0 : w6.cell? ⟨q, 0, none⟩ = some (.pointer (some ⟨p, 0, none⟩)) := blk_cell HK6.out.pair 0
          go_wp2_with fail
          refine (mach_hart HK6.out.mach).mono ?_
          rintro e w7 ⟨rfl, hb⟩
          have HK7 := Lib.hid (HK6.out.on hb)
          have HREC7 : Hid (w7.heap[g10]? = some (.cells (recA (F.drop 66)) 30 (0, 0))) := (hb.block _ (blk_lt HREC.out)).trans HREC.out
          have HW7 : Hid (w7.heap[g9]? = some (.cells (csrA h) 41 (0, 0))) := (hb.block _ (blk_lt HW6.out)).trans HW6.out
          clear hb HK6 HREC HW6 c0
          rw [show (cksV hartC (F.take 66)).toArray = hartA (F.take 66) from rfl]
          go_upto_region 10 with fail
          have HK8 : Hid (Keep W (w7.alloc (.cells (csrA (F.take 66)) 41)) N q mq p b S2 (F.take 66) (putsL N ct (F.drop 78))) := HK7.out.on ((Below.refl _ _).alloc (Nat.le_refl _) _)
          have HREC8 : (w7.alloc (.cells (csrA (F.take 66)) 41)).heap[g10]? = some (.cells (recA (F.drop 66)) 30 (0, 0)) := (blk_alloc_old _ _ _ (blk_lt HREC7.out)).trans HREC7.out
          have HW8 : (w7.alloc (.cells (csrA (F.take 66)) 41)).heap[g9]? = some (.cells (csrA h) 41 (0, 0)) := (blk_alloc_old _ _ _ (blk_lt HW7.out)).trans HW7.out
          have HN8 : (w7.alloc (.cells (csrA (F.take 66)) 41)).heap[w7.heap.size]? = some (.cells (csrA (F.take 66)) 41 (0, 0)) := blk_alloc _ _
          clear HK7 HREC7 HW7
          generalize w7.alloc (.cells (csrA (F.take 66)) 41) = w8 at *
          obtain ⟨g11, hg11⟩ : ∃ g, g = w7.heap.size := ⟨_, rfl⟩
          rw [← hg11] at HN8 ⊢
          clear hg11
          have c2 : w8.cell? ⟨g10, 2, none⟩ = some (.int .u32 (F.getD 68 0)) := by have := rec_cell HREC8 2 cw rfl; rw [getD_drop] at this; exact this
          have c3 : w8.cell? ⟨g10, 3, none⟩ = some (.bool (decide (F.getD 69 0 = 1))) := (rec_cells HREC8).2.1
          have a18 : w8.cell? ⟨g9, 18, none⟩ = some (.int .u64 (h.getD 52 0)) := csr_cell HW8 (j := 18) (by omega)
          have a19 : w8.cell? ⟨g9, 19, none⟩ = some (.int .u64 (h.getD 53 0)) := csr_cell HW8 (j := 19) (by omega)
          have n18 : w8.cell? ⟨g11, 18, none⟩ = some (.int .u64 (F.getD 52 0)) := by have := csr_cell HN8 (j := 18) (by omega); rw [getD_take _ _ _ (by omega)] at this; exact this
          have n19 : w8.cell? ⟨g11, 19, none⟩ = some (.int .u64 (F.getD 53 0)) := by have := csr_cell HN8 (j := 19) (by omega); rw [getD_take _ _ _ (by omega)] at this; exact this
          have HI := Lib.hid (show 0 ≤ F.getD 68 0 ∧ F.getD 68 0 < 4294967296 from HF.out.word)
          have HX0 := Lib.hid (show 0 ≤ h.getD 52 0 ∧ h.getD 52 0 < 18446744073709551616 from by have := inB_get HH.out (i := 52) (r := U) rfl; have h1 : (0 : Int) ≤ h.getD 52 0 := this.1; have h2 : h.getD 52 0 ≤ (18446744073709551615 : Int) := this.2; omega)
          have HX1 := Lib.hid (show 0 ≤ F.getD 52 0 ∧ F.getD 52 0 < 18446744073709551616 from by have := inB_get HF.out.hart (i := 52) (r := U) rfl; rw [getD_take _ _ _ (by omega)] at this; have h1 : (0 : Int) ≤ F.getD 52 0 := this.1; have h2 : F.getD 52 0 ≤ (18446744073709551615 : Int) := this.2; omega)
          have HT := Lib.hid HF.out.tr
          have HCN := Lib.hid (cnt_no HF.out.cnt)
          clear HREC8 HW8 HN8 HF HH
          generalize F.getD 68 0 = I at *
          generalize F.getD 69 0 = TR at *
          generalize h.getD 52 0 = x0 at *
          generalize h.getD 53 0 = n0 at *
          generalize F.getD 52 0 = x1 at *
          generalize F.getD 53 0 = n1 at *
          go_wp2_with fail
          all_goals first
            | exact ⟨⟨k + 1, S2, _, _, by omega, by omega, by rw [Int.natCast_succ], HK8.out⟩, by simp [intOf]; omega⟩
            | (exfalso
               have q := HCN.out
               have t := HT.out
               have eI := and127 HI.out
               have eJ := and7s HI.out
               have e0 := and4 HX0.out
               have e1 := and4 HX1.out
               simp only [bne_iff_ne, ne_eq, beq_iff_eq, beq_eq_false_iff_ne, bne_eq_false_iff_eq] at *
               generalize IntKind.u64.wrap (n0 + 1) = ww at *
               omega)
        · go_simp
          refine hK.out _ _ (by first | exact ⟨(HK5.out.on ((Below.refl _ _).alloc (Nat.le_refl _) _)).pair, HRNG.out _ (HK5.out.on ((Below.refl _ _).alloc (Nat.le_refl _) _)).below⟩ | exact ⟨(HK4.out.on ((Below.refl _ _).drew.alloc (Nat.le_refl _) _)).pair, HRNG.out _ (HK4.out.on ((Below.refl _ _).drew.alloc (Nat.le_refl _) _)).below⟩) (fun hH => ?_)
          clear hK K
          try simp only [Act.put, List.setIfInBounds_toArray, List.set_cons_zero, List.set_cons_succ]
          refine wpAnyH_ready (rs := [8]) (by kernel_rfl) (by simp) (AllReadyH.cons (o := ⟨some 46, _, _, _, _, _⟩) rfl (fun K hK => ?_) (AllReadyH.nil))
          go_simp
          refine ((HK4.out.on (by first | exact (Below.refl _ _).drew | exact (Below.refl _ _).drew.alloc (Nat.le_refl _) _ | exact ((Below.refl _ _).alloc (Nat.le_refl _) _).drew)).step HE.out).mono ?_
          rintro e w5 ⟨F, S2, hF, rfl, hf, hk5, hS2, ht5⟩
          try (have hzb := (ht5.block w4.heap.size (by simp) (by obtain ⟨l1, l2, l3, l4⟩ := HK4.out.lt; rintro (e | e | e); (· omega); (· omega); have := l4 _ e; omega)).trans (blk_alloc w4.drew _); have hz : rowIs w5 w4.heap.size 12 = true := rowIs_of hzb)
          have HW5 : Hid (w5.heap[g9]? = some (.cells (csrA h) 41 (0, 0))) := (ht5.block g9 (by have := blk_lt HW.out; simp; omega) (by obtain ⟨l1, l2, l3⟩ := HW9.out; rintro (e | e | e); (· exact l1 e); (· exact l2 e); exact l3 e)).trans (by first | exact HW.out | exact (blk_alloc_old _ _ _ (blk_lt HW.out)).trans HW.out)
          have HF := Lib.hid hf; have HK5 := Lib.hid hk5; have HS2 := Lib.hid hS2
          try (have HKB := Lib.hid (hk5.setRow (g := w4.heap.size) (recA (List.drop 66 F)) (by have := HK4.out.lt.1; omega) (by have := HK4.out.lt.2.1; omega) (by have := HK4.out.lt.2.2.1; omega) (fun h => by rcases hS2 _ h with h1 | h1; (· have := HK4.out.lt.2.2.2 _ h1; omega); simp at h1; omega) HK4.out.below.size))
          clear hf hk5 hS2 ht5 hF
          go_wp2_with fail
          refine hK.out _ _ ⟨HK5.out.pair, HRNG.out _ HK5.out.below⟩ (fun hH => ?_)
          clear hK K
          try simp only [Act.put, List.setIfInBounds_toArray, List.set_cons_zero, List.set_cons_succ]
          refine wpAnyH_ready (rs := [10]) (by kernel_rfl) (by simp) (AllReadyH.cons (o := ⟨none, _, _, _, _, _⟩) rfl (fun K hK => ?_) (AllReadyH.nil))
          go_simp
          refine hK.out _ _ (by first | exact ⟨(HK5.out.on ((Below.refl _ _).alloc (Nat.le_refl _) _)).pair, HRNG.out _ (HK5.out.on ((Below.refl _ _).alloc (Nat.le_refl _) _)).below⟩ | exact ⟨HKB.out.pair, HRNG.out _ HKB.out.below⟩) (fun hH => ?_)
          clear hK K
          try simp only [Act.put, List.setIfInBounds_toArray, List.set_cons_zero, List.set_cons_succ]
          refine wpAnyH_done (by kernel_rfl) ?_ _
          clear hH
          have HK6 : Hid (Keep W (w5.setRow w4.heap.size (recA (List.drop 66 F))) N q mq p b S2 (F.take 66) (putsL N ct (F.drop 78))) := HKB.out
          have HREC : Hid ((w5.setRow w4.heap.size (recA (List.drop 66 F))).heap[w4.heap.size]? = some (.cells (recA (F.drop 66)) 30 (0, 0))) := setRow_heap _ _ _ _ _ _ hzb
          have HW6 : Hid ((w5.setRow w4.heap.size (recA (List.drop 66 F))).heap[g9]? = some (.cells (csrA h) 41 (0, 0))) := (setRow_other _ _ _ _ (by have := blk_lt HW.out; omega)).trans HW5.out
          generalize w5.setRow w4.heap.size (recA (List.drop 66 F)) = w6 at *
          obtain ⟨g10, hg10⟩ : ∃ g, g = w4.heap.size := ⟨_, rfl⟩
          rw [← hg10] at HREC ⊢
          clear hg10
          clear HK5 HS2 HK4 HW HW5 HW9 hz hzb HKB
          have c0 : w6.cell? ⟨q, 0, none⟩ = some (.pointer (some ⟨p, 0, none⟩)) := blk_cell HK6.out.pair 0
          go_wp2_with fail
          refine (mach_hart HK6.out.mach).mono ?_
          rintro e w7 ⟨rfl, hb⟩
          have HK7 := Lib.hid (HK6.out.on hb)
          have HREC7 : Hid (w7.heap[g10]? = some (.cells (recA (F.drop 66)) 30 (0, 0))) := (hb.block _ (blk_lt HREC.out)).trans HREC.out
          have HW7 : Hid (w7.heap[g9]? = some (.cells (csrA h) 41 (0, 0))) := (hb.block _ (blk_lt HW6.out)).trans HW6.out
          clear hb HK6 HREC HW6 c0
          rw [show (cksV hartC (F.take 66)).toArray = hartA (F.take 66) from rfl]
          go_upto_region 10 with fail
          have HK8 : Hid (Keep W (w7.alloc (.cells (csrA (F.take 66)) 41)) N q mq p b S2 (F.take 66) (putsL N ct (F.drop 78))) := HK7.out.on ((Below.refl _ _).alloc (Nat.le_refl _) _)
          have HREC8 : (w7.alloc (.cells (csrA (F.take 66)) 41)).heap[g10]? = some (.cells (recA (F.drop 66)) 30 (0, 0)) := (blk_alloc_old _ _ _ (blk_lt HREC7.out)).trans HREC7.out
          have HW8 : (w7.alloc (.cells (csrA (F.take 66)) 41)).heap[g9]? = some (.cells (csrA h) 41 (0, 0)) := (blk_alloc_old _ _ _ (blk_lt HW7.out)).trans HW7.out
          have HN8 : (w7.alloc (.cells (csrA (F.take 66)) 41)).heap[w7.heap.size]? = some (.cells (csrA (F.take 66)) 41 (0, 0)) := blk_alloc _ _
          clear HK7 HREC7 HW7
          generalize w7.alloc (.cells (csrA (F.take 66)) 41) = w8 at *
          obtain ⟨g11, hg11⟩ : ∃ g, g = w7.heap.size := ⟨_, rfl⟩
          rw [← hg11] at HN8 ⊢
          clear hg11
          have c2 : w8.cell? ⟨g10, 2, none⟩ = some (.int .u32 (F.getD 68 0)) := by have := rec_cell HREC8 2 cw rfl; rw [getD_drop] at this; exact this
          have c3 : w8.cell? ⟨g10, 3, none⟩ = some (.bool (decide (F.getD 69 0 = 1))) := (rec_cells HREC8).2.1
          have a18 : w8.cell? ⟨g9, 18, none⟩ = some (.int .u64 (h.getD 52 0)) := csr_cell HW8 (j := 18) (by omega)
          have a19 : w8.cell? ⟨g9, 19, none⟩ = some (.int .u64 (h.getD 53 0)) := csr_cell HW8 (j := 19) (by omega)
          have n18 : w8.cell? ⟨g11, 18, none⟩ = some (.int .u64 (F.getD 52 0)) := by have := csr_cell HN8 (j := 18) (by omega); rw [getD_take _ _ _ (by omega)] at this; exact this
          have n19 : w8.cell? ⟨g11, 19, none⟩ = some (.int .u64 (F.getD 53 0)) := by have := csr_cell HN8 (j := 19) (by omega); rw [getD_take _ _ _ (by omega)] at this; exact this
          have HI := Lib.hid (show 0 ≤ F.getD 68 0 ∧ F.getD 68 0 < 4294967296 from HF.out.word)
          have HX0 := Lib.hid (show 0 ≤ h.getD 52 0 ∧ h.getD 52 0 < 18446744073709551616 from by have := inB_get HH.out (i := 52) (r := U) rfl; have h1 : (0 : Int) ≤ h.getD 52 0 := this.1; have h2 : h.getD 52 0 ≤ (18446744073709551615 : Int) := this.2; omega)
          have HX1 := Lib.hid (show 0 ≤ F.getD 52 0 ∧ F.getD 52 0 < 18446744073709551616 from by have := inB_get HF.out.hart (i := 52) (r := U) rfl; rw [getD_take _ _ _ (by omega)] at this; have h1 : (0 : Int) ≤ F.getD 52 0 := this.1; have h2 : F.getD 52 0 ≤ (18446744073709551615 : Int) := this.2; omega)
          have HT := Lib.hid HF.out.tr
          have HCN := Lib.hid (cnt_no HF.out.cnt)
          clear HREC8 HW8 HN8 HF HH
          generalize F.getD 68 0 = I at *
          generalize F.getD 69 0 = TR at *
          generalize h.getD 52 0 = x0 at *
          generalize h.getD 53 0 = n0 at *
          generalize F.getD 52 0 = x1 at *
          generalize F.getD 53 0 = n1 at *
          go_wp2_with fail
          all_goals first
            | exact ⟨⟨k + 1, S2, _, _, by omega, by omega, by rw [Int.natCast_succ], HK8.out⟩, by simp [intOf]; omega⟩
            | (exfalso
               have q := HCN.out
               have t := HT.out
               have eI := and127 HI.out
               have eJ := and7s HI.out
               have e0 := and4 HX0.out
               have e1 := and4 HX1.out
               simp only [bne_iff_ne, ne_eq, beq_iff_eq, beq_eq_false_iff_ne, bne_eq_false_iff_eq] at *
               generalize IntKind.u64.wrap (n0 + 1) = ww at *
               omega)

      · obtain rfl : k = 200 := by omega
        go_wp2_with fail
        go_ret
        exact ⟨rfl, HK3.out.below⟩
    · obtain rfl : k = em := by omega
      go_wp2_with fail
      go_ret
      exact ⟨rfl, HK3.out.below⟩
end Go.Proofs.YtkogjjeoihnjpaaGreat
end
