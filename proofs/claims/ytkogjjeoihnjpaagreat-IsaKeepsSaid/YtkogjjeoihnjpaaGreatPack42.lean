/- IsaKeeps: the walk. No condition. -/
import Derived.Test.YtkogjjeoihnjpaaGreatPack40
import Derived.StillTailTactics
import Derived.BigRegion
import Derived.Deep.RegionWith
import Derived.Deep.RegionHeld3
import Derived.Deep.QuietTactic
import Derived.BigQuiet
import Derived.Deep.LoopGhost
import Derived.Deep.DeepCutAuto
import Derived.Deep.DeepFit
import Derived.Deep.DeepMust
import Derived.Handy
section
set_option linter.unusedVariables false
set_option linter.unusedSimpArgs false
namespace Go.Proofs.YtkogjjeoihnjpaaGreat
open Go.RowKit Sx
set_option maxRecDepth 100000
attribute [local go_sem ↓] st_rec st_hart ld_hart ld_env
attribute [local go_sem] rs_rec rs_hart rl_hart recA_ok hartA_ok recA_size hartA_size row_alloc row_drew row_drewN is_alloc is_drew is_drewN row_setCell is_setCell setRow_alloc_new objRow_cells objIs_cells row_setRow_same row_setRow_other is_setRow_same is_setRow_other
set_option maxHeartbeats 8000000 in
theorem isa_keeps_walk (W : World) (n : Int) (a : Option Addr) (m c : Nat) (l : List Int) (hl : IsB W a m l) (hin : ∀ b o s, a = some ⟨b, o, s⟩ → b < W.heap.size) (hmc : m ≤ c) (ea : Option Addr) (em ec : Nat) (evs : Nat → List Int) (hev : EnvRow W ea em evs) (hem : (em : Int) ≤ 9223372036854775807) :
    Calls Tryz.prog 3 #[.int .i64 n, .slice a m c, .slice ea em ec] W fun e w' => e = .returned (.bool true) ∧ Below W.heap.size W w' := by
  have HMADE : Hid (∃ k l', Calls Tryz.prog 14 #[.int .i64 n, .slice a m c] W (MadeIs W (pagesN n) l' k)) := by
    by_cases hm : (m : Int) ≤ 16384
    · exact ⟨m, l, made_short n a m c W l hl hin hm⟩
    · exact ⟨16384, l.take 16384, made_long n a m c W l hl hin (by omega) hmc⟩
  have HEV := Lib.hid hev
  have HM := Lib.hid (show (em : Int) ≤ 9223372036854775807 by omega)
  clear hl hin hmc hev hem
  obtain ⟨k0, l0, hmade⟩ := HMADE.out
  go_enter Tryz.func3, Tryz.ntmps3
  go_wp2_with fail
  refine hmade.mono ?_
  rintro e w1 ⟨q, p, b, mq, sb, S, rfl, hpair, hb⟩
  have HK := Lib.hid (Keep.of hpair hb)
  clear hpair hb hmade HMADE
  generalize pagesN n = N at *
  go_wp2_with fail
  refine (isa_awake _).mono ?_
  rintro e w2 ⟨rfl, hb⟩
  have HK2 := Lib.hid (HK.out.on hb)
  clear hb HK
  go_wp2_with fail
  go_loopw [8] (fun i wr => ∃ (k : Nat) (S : Nat → Prop) (h : List Int) (ct : Nat → Nat), (k : Int) ≤ em ∧ (k : Int) ≤ 200 ∧ i = .int .i64 k ∧ Keep W wr N q mq p b S h ct) (fun i _ => 200 - (intOf i).toNat)
  case atStart => exact ⟨0, S, _, _, by omega, by omega, rfl, HK2.out⟩
  case round =>
    obtain ⟨k, S1, h, ct, hk1, hk2, rfl, hkeep⟩ := hrel
    have HK3 := Lib.hid hkeep
    clear hkeep HK2
    by_cases hlt : (k : Int) < em
    · by_cases hlt2 : (k : Int) < 200
      · clear hk1 hk2
        obtain ⟨he, eb, eo, rfl, heb, her⟩ := HEV.out k (by omega)
        have HE := Lib.hid he
        have HRNG : Hid (∀ wq, Below W.heap.size W wq → wq.rangeAt eb (eo + k * 10) (cksV envC (evs k))) := fun wq hb => rangeAt_below her heb hb
        have HEB : Hid (eb < W.heap.size) := heb
        clear he heb her
        go_wp2_with fail
        refine wp_region_held_drew (S := fun wq => wq.heap[q]? = some (.cells #[.pointer (some ⟨p, 0, none⟩), .pointer (some ⟨mq, 0, none⟩)] 34 (0, 0)) ∧ wq.rangeAt eb (eo + k * 10) (cksV envC (evs k))) (by kernel_rfl) ⟨HK3.out.pair, HRNG.out _ HK3.out.below.drew⟩ (fun hH => ?_)
        refine wpAnyH_take (i := 0) (oi := ⟨some 30, _, _, _, _, _⟩) (v := ?_) rfl (by kernel_rfl) (by kernel_rfl) (by kernel_rfl) (fun _ _ _ h => h) (Or.inl ⟨by kernel_rfl, ?_⟩) hH ?_
        rotate_left 1
        · intro wq hq; have r0 : wq.cell? ⟨q, 0, none⟩ = some (.pointer (some ⟨p, 0, none⟩)) := blk_cell hq.1 0; have r1 := rl_env hq.2; clear hq; first | (go_simp; done) | (go_simp; with_reducible rfl)
        simp only [Act.put, List.setIfInBounds_toArray, List.set_cons_zero, List.set_cons_succ]
        refine wpAnyH_take (i := 1) (oi := ⟨some 31, _, _, _, _, _⟩) (v := ?_) rfl (by kernel_rfl) (by kernel_rfl) (by kernel_rfl) (fun _ _ _ h => h) (Or.inl ⟨by kernel_rfl, ?_⟩) hH ?_
        rotate_left 1
        · intro wq hq; have r0 : wq.cell? ⟨q, 0, none⟩ = some (.pointer (some ⟨p, 0, none⟩)) := blk_cell hq.1 0; have r1 := rl_env hq.2; clear hq; first | (go_simp; done) | (go_simp; with_reducible rfl)
        simp only [Act.put, List.setIfInBounds_toArray, List.set_cons_zero, List.set_cons_succ]
        refine wpAnyH_take (i := 2) (oi := ⟨some 32, _, _, _, _, _⟩) (v := ?_) rfl (by kernel_rfl) (by kernel_rfl) (by kernel_rfl) (fun _ _ _ h => h) (Or.inl ⟨by kernel_rfl, ?_⟩) hH ?_
        rotate_left 1
        · intro wq hq; have r0 : wq.cell? ⟨q, 0, none⟩ = some (.pointer (some ⟨p, 0, none⟩)) := blk_cell hq.1 0; have r1 := rl_env hq.2; clear hq; first | (go_simp; done) | (go_simp; with_reducible rfl)
        simp only [Act.put, List.setIfInBounds_toArray, List.set_cons_zero, List.set_cons_succ]
        refine wpAnyH_take (i := 3) (oi := ⟨some 33, _, _, _, _, _⟩) (v := ?_) rfl (by kernel_rfl) (by kernel_rfl) (by kernel_rfl) (fun _ _ _ h => h) (Or.inl ⟨by kernel_rfl, ?_⟩) hH ?_
        rotate_left 1
        · intro wq hq; have r0 : wq.cell? ⟨q, 0, none⟩ = some (.pointer (some ⟨p, 0, none⟩)) := blk_cell hq.1 0; have r1 := rl_env hq.2; clear hq; first | (go_simp; done) | (go_simp; with_reducible rfl)
        simp only [Act.put, List.setIfInBounds_toArray, List.set_cons_zero, List.set_cons_succ]
        refine wpAnyH_take (i := 4) (oi := ⟨some 34, _, _, _, _, _⟩) (v := ?_) rfl (by kernel_rfl) (by kernel_rfl) (by kernel_rfl) (fun _ _ _ h => h) (Or.inl ⟨by kernel_rfl, ?_⟩) hH ?_
        rotate_left 1
        · intro wq hq; have r0 : wq.cell? ⟨q, 0, none⟩ = some (.pointer (some ⟨p, 0, none⟩)) := blk_cell hq.1 0; have r1 := rl_env hq.2; clear hq; first | (go_simp; done) | (go_simp; with_reducible rfl)
        simp only [Act.put, List.setIfInBounds_toArray, List.set_cons_zero, List.set_cons_succ]
        refine wpAnyH_take (i := 5) (oi := ⟨some 35, _, _, _, _, _⟩) (v := ?_) rfl (by kernel_rfl) (by kernel_rfl) (by kernel_rfl) (fun _ _ _ h => h) (Or.inl ⟨by kernel_rfl, ?_⟩) hH ?_
        rotate_left 1
        · intro wq hq; have r0 : wq.cell? ⟨q, 0, none⟩ = some (.pointer (some ⟨p, 0, none⟩)) := blk_cell hq.1 0; have r1 := rl_env hq.2; clear hq; first | (go_simp; done) | (go_simp; with_reducible rfl)
        simp only [Act.put, List.setIfInBounds_toArray, List.set_cons_zero, List.set_cons_succ]
        refine wpAnyH_take (i := 6) (oi := ⟨some 36, _, _, _, _, _⟩) (v := ?_) rfl (by kernel_rfl) (by kernel_rfl) (by kernel_rfl) (fun _ _ _ h => h) (Or.inl ⟨by kernel_rfl, ?_⟩) hH ?_
        rotate_left 1
        · intro wq hq; have r0 : wq.cell? ⟨q, 0, none⟩ = some (.pointer (some ⟨p, 0, none⟩)) := blk_cell hq.1 0; have r1 := rl_env hq.2; clear hq; first | (go_simp; done) | (go_simp; with_reducible rfl)
        simp only [Act.put, List.setIfInBounds_toArray, List.set_cons_zero, List.set_cons_succ]
        refine wpAnyH_take (i := 7) (oi := ⟨some 37, _, _, _, _, _⟩) (v := ?_) rfl (by kernel_rfl) (by kernel_rfl) (by kernel_rfl) (fun _ _ _ h => h) (Or.inl ⟨by kernel_rfl, ?_⟩) hH ?_
        rotate_left 1
        · intro wq hq; have r0 : wq.cell? ⟨q, 0, none⟩ = some (.pointer (some ⟨p, 0, none⟩)) := blk_cell hq.1 0; have r1 := rl_env hq.2; clear hq; first | (go_simp; done) | (go_simp; with_reducible rfl)
        simp only [Act.put, List.setIfInBounds_toArray, List.set_cons_zero, List.set_cons_succ]
        refine wpAnyH_ready (rs := [8, 9]) (by kernel_rfl) (by simp) (AllReadyH.cons (o := ⟨some 38, _, _, _, _, _⟩) rfl (fun K hK => ?_) (AllReadyH.cons (o := ⟨some 9, _, _, _, _, _⟩) rfl (fun K hK => ?_) (AllReadyH.nil)))
        · go_simp
          refine ((HK3.out.on (by first | exact (Below.refl _ _).drew | exact (Below.refl _ _).drew.alloc (Nat.le_refl _) _ | exact ((Below.refl _ _).alloc (Nat.le_refl _) _).drew)).step HE.out).mono ?_
          rintro e w5 ⟨F, S2, hF, rfl, hf, hk5, hS2, ht5⟩
          try (have hzb := (ht5.block wr.heap.size (by simp) (by obtain ⟨l1, l2, l3, l4⟩ := HK3.out.lt; rintro (e | e | e); (· omega); (· omega); have := l4 _ e; omega)).trans (blk_alloc wr.drew _); have hz : rowIs w5 wr.heap.size 12 = true := rowIs_of hzb)
          have HF := Lib.hid hf; have HK5 := Lib.hid hk5; have HS2 := Lib.hid hS2
          try (have HKB := Lib.hid (hk5.setRow (g := wr.heap.size) (recA (List.drop 66 F)) (by have := HK3.out.lt.1; omega) (by have := HK3.out.lt.2.1; omega) (by have := HK3.out.lt.2.2.1; omega) (fun h => by rcases hS2 _ h with h1 | h1; (· have := HK3.out.lt.2.2.2 _ h1; omega); simp at h1; omega) HK3.out.below.size))
          clear hf hk5 hS2 ht5 hF
          go_wp2_with fail
          refine hK.out _ _ ⟨HK5.out.pair, HRNG.out _ HK5.out.below⟩ (fun hH => ?_)
          clear hK K
          try simp only [Act.put, List.setIfInBounds_toArray, List.set_cons_zero, List.set_cons_succ]
          refine wpAnyH_ready (rs := [9]) (by kernel_rfl) (by simp) (AllReadyH.cons (o := ⟨some 9, _, _, _, _, _⟩) rfl (fun K hK => ?_) (AllReadyH.nil))
          go_simp
          refine hK.out _ _ (by first | exact ⟨(HK5.out.on ((Below.refl _ _).alloc (Nat.le_refl _) _)).pair, HRNG.out _ (HK5.out.on ((Below.refl _ _).alloc (Nat.le_refl _) _)).below⟩ | exact ⟨(HK3.out.on ((Below.refl _ _).drew.alloc (Nat.le_refl _) _)).pair, HRNG.out _ (HK3.out.on ((Below.refl _ _).drew.alloc (Nat.le_refl _) _)).below⟩) (fun hH => ?_)
          clear hK K
          try simp only [Act.put, List.setIfInBounds_toArray, List.set_cons_zero, List.set_cons_succ]
          refine wpAnyH_ready (rs := [10]) (by kernel_rfl) (by simp) (AllReadyH.cons (o := ⟨none, _, _, _, _, _⟩) rfl (fun K hK => ?_) (AllReadyH.nil))
          go_simp
          refine hK.out _ _ (by first | exact ⟨(HK5.out.on ((Below.refl _ _).alloc (Nat.le_refl _) _)).pair, HRNG.out _ (HK5.out.on ((Below.refl _ _).alloc (Nat.le_refl _) _)).below⟩ | exact ⟨HKB.out.pair, HRNG.out _ HKB.out.below⟩) (fun hH => ?_)
          clear hK K
          try simp only [Act.put, List.setIfInBounds_toArray, List.set_cons_zero, List.set_cons_succ]
          refine wpAnyH_done (by kernel_rfl) ?_ _
          clear hH
          have HK6 : Hid (Keep W (w5.alloc (.cells (recA (List.drop 66 F)) 30)) N q mq p b S2 (F.take 66) (putsL N ct (F.drop 78))) := HK5.out.on ((Below.refl _ _).alloc (Nat.le_refl _) _)
          have HREC : Hid ((w5.alloc (.cells (recA (List.drop 66 F)) 30)).heap[w5.heap.size]? = some (.cells (recA (F.drop 66)) 30 (0, 0))) := blk_alloc _ _
          generalize w5.alloc (.cells (recA (List.drop 66 F)) 30) = w6 at *
          obtain ⟨g9, hg9⟩ : ∃ g, g = w5.heap.size := ⟨_, rfl⟩
          rw [← hg9] at HREC ⊢
          clear hg9
          clear HK5 HS2 HK3 
          have c0 : w6.cell? ⟨q, 0, none⟩ = some (.pointer (some ⟨p, 0, none⟩)) := blk_cell HK6.out.pair 0
          go_wp2_with fail
          refine (mach_hart HK6.out.mach).mono ?_
          rintro e w7 ⟨rfl, hb⟩
          have HK7 := Lib.hid (HK6.out.on hb)
          have HREC7 : Hid (w7.heap[g9]? = some (.cells (recA (F.drop 66)) 30 (0, 0))) := (hb.block _ (blk_lt HREC.out)).trans HREC.out
          clear hb HK6 HREC c0
          rw [show (cksV hartC (F.take 66)).toArray = hartA (F.take 66) from rfl]
          go_wp2_with fail
          have HK8 : Hid (Keep W (w7.alloc (.cells (hartA (F.take 66)) 43)) N q mq p b S2 (F.take 66) (putsL N ct (F.drop 78))) := HK7.out.on ((Below.refl _ _).alloc (Nat.le_refl _) _)
          have HREC8 : Hid ((w7.alloc (.cells (hartA (F.take 66)) 43)).heap[g9]? = some (.cells (recA (F.drop 66)) 30 (0, 0))) := (blk_alloc_old _ _ _ (blk_lt HREC7.out)).trans HREC7.out
          have HHA : Hid ((w7.alloc (.cells (hartA (F.take 66)) 43)).heap[w7.heap.size]? = some (.cells (hartA (F.take 66)) 43 (0, 0))) := blk_alloc _ _
          clear HK7 HREC7
          generalize w7.alloc (.cells (hartA (F.take 66)) 43) = w8 at *
          obtain ⟨g10, hg10⟩ : ∃ g, g = w7.heap.size := ⟨_, rfl⟩
          rw [← hg10] at HHA ⊢
          clear hg10
          have HRC : Hid (∀ wq : World, wq.heap[g9]? = some (.cells (recA (F.drop 66)) 30 (0, 0)) → wq.cell? ⟨g9, 0, none⟩ = some (.int .u64 (F.getD 66 0)) ∧ wq.cell? ⟨g9, 3, none⟩ = some (.bool (decide (F.getD 69 0 = 1))) ∧ wq.cell? ⟨g9, 6, none⟩ = some (.int .i64 (F.getD 72 0)) ∧ wq.cell? ⟨g9, 7, none⟩ = some (.int .u64 (F.getD 73 0)) ∧ wq.cell? ⟨g9, 8, none⟩ = some (.int .i64 (F.getD 74 0))) := fun wq hq => rec_cells hq
          have HHC : Hid (∀ wq : World, wq.heap[g10]? = some (.cells (hartA (F.take 66)) 43 (0, 0)) → ∀ j, j < 32 → wq.cell? ⟨g10, 2 + j, none⟩ = some (.int .u64 (F.getD (2 + j) 0))) := fun wq hq j hj => hart_cells hq hj
          have HEC : Hid (∀ wq : World, wq.rangeAt eb (eo + k * 10) (cksV envC (evs k)) → wq.cell? ⟨eb, eo + k * 10, none⟩ = some (.int .u64 (F.getD 66 0))) := fun wq hq => by rw [HF.out.cyc]; exact env_cell hq
          have HSAY : Hid (∀ wq, Calls Tryz.prog 18 #[.agg (hartA (F.take 66))] wq (Gives (.bool true) wq)) := fun wq => rmay_says (F.take 66) HF.out.hart HF.out.may wq
          obtain ⟨rd, hrd⟩ : ∃ rd : Nat, F.getD 72 0 = rd := ⟨(F.getD 72 0).toNat, by have := HF.out.rd.1; omega⟩
          have hrd31 : (rd : Int) ≤ 31 := by have := HF.out.rd.2; omega
          have HX : Hid (0 < rd → F.getD (2 + rd) 0 = F.getD 73 0) := fun h => by have := HF.out.x (by omega); rw [hrd] at this; simpa using this
          have HV0 : Hid (rd = 0 → F.getD 73 0 = 0) := fun h => HF.out.v0 (by omega)
          have HT1 : Hid (F.getD 69 0 = 1 → rd = 0 ∧ F.getD 74 0 = 0) := fun h => by have := HF.out.t1 h; exact ⟨by omega, this.2⟩
          rw [hrd] at HRC
          have HT := Lib.hid HF.out.tr
          clear hrd HF
          generalize F.getD 66 0 = CY at *
          generalize F.getD 69 0 = TR at *
          generalize F.getD 73 0 = VA at *
          generalize F.getD 74 0 = ME at *
          have HHX : Hid (0 < rd → ∀ wq : World, wq.heap[g10]? = some (.cells (hartA (F.take 66)) 43 (0, 0)) → wq.cell? ⟨g10, 2 + rd, none⟩ = some (.int .u64 VA)) := fun h wq hq => by rw [← HX.out h]; exact HHC.out wq hq rd (by omega)
          clear HHC HX
          by_cases hTR : TR = 1
          · obtain ⟨rfl, rfl⟩ := HT1.out hTR
            obtain rfl : VA = 0 := HV0.out rfl
            subst hTR
            clear HT HV0 HT1 HHX
            refine wp_region_held_drew (S := fun wq => wq.heap[g9]? = some (.cells (recA (F.drop 66)) 30 (0, 0)) ∧ wq.heap[g10]? = some (.cells (hartA (F.take 66)) 43 (0, 0)) ∧ wq.rangeAt eb (eo + k * 10) (cksV envC (evs k))) (by kernel_rfl) ⟨HREC8.out, HHA.out, HRNG.out _ HK8.out.below.drew⟩ (fun hH => ?_)
            refine wpAnyH_take (i := 0) (oi := ⟨some 44, _, _, _, _, _⟩) (v := ?_) rfl (by kernel_rfl) (by kernel_rfl) (by kernel_rfl) (fun _ _ _ h => h) (Or.inl ⟨by kernel_rfl, ?_⟩) hH ?_
            rotate_left 1
            · intro wq hq; obtain ⟨r0, r3, r6, r7, r8⟩ := HRC.out wq hq.1; have re := HEC.out wq hq.2.2; have q1 : rowIs wq g10 66 = true := (by have := rowIs_of hq.2.1; rwa [hartA_size] at this); have q2 : rowOf wq g10 = hartA (F.take 66) := rowOf_of hq.2.1; clear hq; first | (go_simp; done) | (go_simp; with_reducible rfl)
            simp only [Act.put, List.setIfInBounds_toArray, List.set_cons_zero, List.set_cons_succ]
            refine wpAnyH_ready (rs := [1]) (by kernel_rfl) (by simp) (AllReadyH.cons (o := ⟨some 45, _, _, _, _, _⟩) rfl (fun K hK => ?_) AllReadyH.nil)
            go_simp
            refine (HSAY.out _).mono ?_
            rintro e w9 ⟨rfl, hb⟩
            have HK9 := Lib.hid ((HK8.out.on (Below.refl _ _).drew).on hb)
            have HREC9 : Hid (w9.heap[g9]? = some (.cells (recA (F.drop 66)) 30 (0, 0))) := (hb.block _ (blk_lt HREC8.out)).trans HREC8.out
            have HHA9 : Hid (w9.heap[g10]? = some (.cells (hartA (F.take 66)) 43 (0, 0))) := (hb.block _ (blk_lt HHA.out)).trans HHA.out
            clear hb HK8 HREC8 HHA
            go_wp2_with fail
            refine hK.out _ _ ⟨HREC9.out, HHA9.out, HRNG.out _ HK9.out.below⟩ (fun hH => ?_)
            clear hK K
            try simp only [Act.put, List.setIfInBounds_toArray, List.set_cons_zero, List.set_cons_succ]
            refine wpAnyH_take (i := 2) (oi := ⟨some 46, _, _, _, _, _⟩) (v := ?_) rfl (by kernel_rfl) (by kernel_rfl) (by kernel_rfl) (fun _ _ _ h => h) (Or.inl ⟨by kernel_rfl, ?_⟩) hH ?_
            rotate_left 1
            · intro wq hq; obtain ⟨r0, r3, r6, r7, r8⟩ := HRC.out wq hq.1; have re := HEC.out wq hq.2.2; have q1 : rowIs wq g10 66 = true := (by have := rowIs_of hq.2.1; rwa [hartA_size] at this); have q2 : rowOf wq g10 = hartA (F.take 66) := rowOf_of hq.2.1; clear hq; first | (go_simp; done) | (go_simp; with_reducible rfl)
            simp only [Act.put, List.setIfInBounds_toArray, List.set_cons_zero, List.set_cons_succ]
            refine wpAnyH_take (i := 3) (oi := ⟨some 47, _, _, _, _, _⟩) (v := ?_) rfl (by kernel_rfl) (by kernel_rfl) (by kernel_rfl) (fun _ _ _ h => h) (Or.inl ⟨by kernel_rfl, ?_⟩) hH ?_
            rotate_left 1
            · intro wq hq; obtain ⟨r0, r3, r6, r7, r8⟩ := HRC.out wq hq.1; have re := HEC.out wq hq.2.2; have q1 : rowIs wq g10 66 = true := (by have := rowIs_of hq.2.1; rwa [hartA_size] at this); have q2 : rowOf wq g10 = hartA (F.take 66) := rowOf_of hq.2.1; clear hq; first | (go_simp; done) | (go_simp; with_reducible rfl)
            simp only [Act.put, List.setIfInBounds_toArray, List.set_cons_zero, List.set_cons_succ]
            refine wpAnyH_take (i := 4) (oi := ⟨some 48, _, _, _, _, _⟩) (v := ?_) rfl (by kernel_rfl) (by kernel_rfl) (by kernel_rfl) (fun _ _ _ h => h) (Or.inl ⟨by kernel_rfl, ?_⟩) hH ?_
            rotate_left 1
            · intro wq hq; obtain ⟨r0, r3, r6, r7, r8⟩ := HRC.out wq hq.1; have re := HEC.out wq hq.2.2; have q1 : rowIs wq g10 66 = true := (by have := rowIs_of hq.2.1; rwa [hartA_size] at this); have q2 : rowOf wq g10 = hartA (F.take 66) := rowOf_of hq.2.1; clear hq; first | (go_simp; done) | (go_simp; with_reducible rfl)
            simp only [Act.put, List.setIfInBounds_toArray, List.set_cons_zero, List.set_cons_succ]
            refine wpAnyH_take (i := 5) (oi := ⟨some 49, _, _, _, _, _⟩) (v := ?_) rfl (by kernel_rfl) (by kernel_rfl) (by kernel_rfl) (fun _ _ _ h => h) (Or.inl ⟨by kernel_rfl, ?_⟩) hH ?_
            rotate_left 1
            · intro wq hq; obtain ⟨r0, r3, r6, r7, r8⟩ := HRC.out wq hq.1; have re := HEC.out wq hq.2.2; have q1 : rowIs wq g10 66 = true := (by have := rowIs_of hq.2.1; rwa [hartA_size] at this); have q2 : rowOf wq g10 = hartA (F.take 66) := rowOf_of hq.2.1; clear hq; first | (go_simp; done) | (go_simp; with_reducible rfl)
            simp only [Act.put, List.setIfInBounds_toArray, List.set_cons_zero, List.set_cons_succ]
            refine wpAnyH_take (i := 6) (oi := ⟨some 50, _, _, _, _, _⟩) (v := ?_) rfl (by kernel_rfl) (by kernel_rfl) (by kernel_rfl) (fun _ _ _ h => h) (Or.inl ⟨by kernel_rfl, ?_⟩) hH ?_
            rotate_left 1
            · intro wq hq; obtain ⟨r0, r3, r6, r7, r8⟩ := HRC.out wq hq.1; have re := HEC.out wq hq.2.2; have q1 : rowIs wq g10 66 = true := (by have := rowIs_of hq.2.1; rwa [hartA_size] at this); have q2 : rowOf wq g10 = hartA (F.take 66) := rowOf_of hq.2.1; clear hq; first | (go_simp; done) | (go_simp; with_reducible rfl)
            simp only [Act.put, List.setIfInBounds_toArray, List.set_cons_zero, List.set_cons_succ]
            refine wpAnyH_take (i := 7) (oi := ⟨some 51, _, _, _, _, _⟩) (v := ?_) rfl (by kernel_rfl) (by kernel_rfl) (by kernel_rfl) (fun _ _ _ h => h) (Or.inl ⟨by kernel_rfl, ?_⟩) hH ?_
            rotate_left 1
            · intro wq hq; obtain ⟨r0, r3, r6, r7, r8⟩ := HRC.out wq hq.1; have re := HEC.out wq hq.2.2; have q1 : rowIs wq g10 66 = true := (by have := rowIs_of hq.2.1; rwa [hartA_size] at this); have q2 : rowOf wq g10 = hartA (F.take 66) := rowOf_of hq.2.1; clear hq; first | (go_simp; done) | (go_simp; with_reducible rfl)
            simp only [Act.put, List.setIfInBounds_toArray, List.set_cons_zero, List.set_cons_succ]
            refine wpAnyH_take (i := 8) (oi := ⟨some 52, _, _, _, _, _⟩) (v := ?_) rfl (by kernel_rfl) (by kernel_rfl) (by kernel_rfl) (fun _ _ _ h => h) (Or.inl ⟨by kernel_rfl, ?_⟩) hH ?_
            rotate_left 1
            · intro wq hq; obtain ⟨r0, r3, r6, r7, r8⟩ := HRC.out wq hq.1; have re := HEC.out wq hq.2.2; have q1 : rowIs wq g10 66 = true := (by have := rowIs_of hq.2.1; rwa [hartA_size] at this); have q2 : rowOf wq g10 = hartA (F.take 66) := rowOf_of hq.2.1; clear hq; first | (go_simp; done) | (go_simp; with_reducible rfl)
            simp only [Act.put, List.setIfInBounds_toArray, List.set_cons_zero, List.set_cons_succ]
            refine wpAnyH_take (i := 9) (oi := ⟨some 53, _, _, _, _, _⟩) (v := ?_) rfl (by kernel_rfl) (by kernel_rfl) (by kernel_rfl) (fun _ _ _ h => h) (Or.inl ⟨by kernel_rfl, ?_⟩) hH ?_
            rotate_left 1
            · intro wq hq; obtain ⟨r0, r3, r6, r7, r8⟩ := HRC.out wq hq.1; have re := HEC.out wq hq.2.2; have q1 : rowIs wq g10 66 = true := (by have := rowIs_of hq.2.1; rwa [hartA_size] at this); have q2 : rowOf wq g10 = hartA (F.take 66) := rowOf_of hq.2.1; clear hq; first | (go_simp; done) | (go_simp; with_reducible rfl)
            simp only [Act.put, List.setIfInBounds_toArray, List.set_cons_zero, List.set_cons_succ]
            refine wpAnyH_take (i := 10) (oi := ⟨some 54, _, _, _, _, _⟩) (v := ?_) rfl (by kernel_rfl) (by kernel_rfl) (by kernel_rfl) (fun _ _ _ h => h) (Or.inl ⟨by kernel_rfl, ?_⟩) hH ?_
            rotate_left 1
            · intro wq hq; obtain ⟨r0, r3, r6, r7, r8⟩ := HRC.out wq hq.1; have re := HEC.out wq hq.2.2; have q1 : rowIs wq g10 66 = true := (by have := rowIs_of hq.2.1; rwa [hartA_size] at this); have q2 : rowOf wq g10 = hartA (F.take 66) := rowOf_of hq.2.1; clear hq; first | (go_simp; done) | (go_simp; with_reducible rfl)
            simp only [Act.put, List.setIfInBounds_toArray, List.set_cons_zero, List.set_cons_succ]
            refine wpAnyH_take (i := 11) (oi := ⟨some 55, _, _, _, _, _⟩) (v := ?_) rfl (by kernel_rfl) (by kernel_rfl) (by kernel_rfl) (fun _ _ _ h => h) (Or.inl ⟨by kernel_rfl, ?_⟩) hH ?_
            rotate_left 1
            · intro wq hq; obtain ⟨r0, r3, r6, r7, r8⟩ := HRC.out wq hq.1; have re := HEC.out wq hq.2.2; have q1 : rowIs wq g10 66 = true := (by have := rowIs_of hq.2.1; rwa [hartA_size] at this); have q2 : rowOf wq g10 = hartA (F.take 66) := rowOf_of hq.2.1; clear hq; first | (go_simp; done) | (go_simp; with_reducible rfl)
            simp only [Act.put, List.setIfInBounds_toArray, List.set_cons_zero, List.set_cons_succ]
            refine wpAnyH_take (i := 12) (oi := ⟨some 56, _, _, _, _, _⟩) (v := ?_) rfl (by kernel_rfl) (by kernel_rfl) (by kernel_rfl) (fun _ _ _ h => h) (Or.inl ⟨by kernel_rfl, ?_⟩) hH ?_
            rotate_left 1
            · intro wq hq; obtain ⟨r0, r3, r6, r7, r8⟩ := HRC.out wq hq.1; have re := HEC.out wq hq.2.2; have q1 : rowIs wq g10 66 = true := (by have := rowIs_of hq.2.1; rwa [hartA_size] at this); have q2 : rowOf wq g10 = hartA (F.take 66) := rowOf_of hq.2.1; clear hq; first | (go_simp; done) | (go_simp; with_reducible rfl)
            simp only [Act.put, List.setIfInBounds_toArray, List.set_cons_zero, List.set_cons_succ]
            refine wpAnyH_take (i := 13) (oi := ⟨some 57, _, _, _, _, _⟩) (v := ?_) rfl (by kernel_rfl) (by kernel_rfl) (by kernel_rfl) (fun _ _ _ h => h) (Or.inl ⟨by kernel_rfl, ?_⟩) hH ?_
            rotate_left 1
            · intro wq hq; obtain ⟨r0, r3, r6, r7, r8⟩ := HRC.out wq hq.1; have re := HEC.out wq hq.2.2; have q1 : rowIs wq g10 66 = true := (by have := rowIs_of hq.2.1; rwa [hartA_size] at this); have q2 : rowOf wq g10 = hartA (F.take 66) := rowOf_of hq.2.1; clear hq; first | (go_simp; done) | (go_simp; with_reducible rfl)
            simp only [Act.put, List.setIfInBounds_toArray, List.set_cons_zero, List.set_cons_succ]
            refine wpAnyH_take (i := 14) (oi := ⟨some 58, _, _, _, _, _⟩) (v := ?_) rfl (by kernel_rfl) (by kernel_rfl) (by kernel_rfl) (fun _ _ _ h => h) (Or.inl ⟨by kernel_rfl, ?_⟩) hH ?_
            rotate_left 1
            · intro wq hq; obtain ⟨r0, r3, r6, r7, r8⟩ := HRC.out wq hq.1; have re := HEC.out wq hq.2.2; have q1 : rowIs wq g10 66 = true := (by have := rowIs_of hq.2.1; rwa [hartA_size] at this); have q2 : rowOf wq g10 = hartA (F.take 66) := rowOf_of hq.2.1; clear hq; first | (go_simp; done) | (go_simp; with_reducible rfl)
            simp only [Act.put, List.setIfInBounds_toArray, List.set_cons_zero, List.set_cons_succ]
            refine wpAnyH_take (i := 15) (oi := ⟨some 59, _, _, _, _, _⟩) (v := ?_) rfl (by kernel_rfl) (by kernel_rfl) (by kernel_rfl) (fun _ _ _ h => h) (Or.inl ⟨by kernel_rfl, ?_⟩) hH ?_
            rotate_left 1
            · intro wq hq; obtain ⟨r0, r3, r6, r7, r8⟩ := HRC.out wq hq.1; have re := HEC.out wq hq.2.2; have q1 : rowIs wq g10 66 = true := (by have := rowIs_of hq.2.1; rwa [hartA_size] at this); have q2 : rowOf wq g10 = hartA (F.take 66) := rowOf_of hq.2.1; clear hq; first | (go_simp; done) | (go_simp; with_reducible rfl)
            simp only [Act.put, List.setIfInBounds_toArray, List.set_cons_zero, List.set_cons_succ]
            refine wpAnyH_take (i := 16) (oi := ⟨some 60, _, _, _, _, _⟩) (v := ?_) rfl (by kernel_rfl) (by kernel_rfl) (by kernel_rfl) (fun _ _ _ h => h) (Or.inl ⟨by kernel_rfl, ?_⟩) hH ?_
            rotate_left 1
            · intro wq hq; obtain ⟨r0, r3, r6, r7, r8⟩ := HRC.out wq hq.1; have re := HEC.out wq hq.2.2; have q1 : rowIs wq g10 66 = true := (by have := rowIs_of hq.2.1; rwa [hartA_size] at this); have q2 : rowOf wq g10 = hartA (F.take 66) := rowOf_of hq.2.1; clear hq; first | (go_simp; done) | (go_simp; with_reducible rfl)
            simp only [Act.put, List.setIfInBounds_toArray, List.set_cons_zero, List.set_cons_succ]
            refine wpAnyH_take (i := 17) (oi := ⟨some 61, _, _, _, _, _⟩) (v := ?_) rfl (by kernel_rfl) (by kernel_rfl) (by kernel_rfl) (fun _ _ _ h => h) (Or.inl ⟨by kernel_rfl, ?_⟩) hH ?_
            rotate_left 1
            · intro wq hq; obtain ⟨r0, r3, r6, r7, r8⟩ := HRC.out wq hq.1; have re := HEC.out wq hq.2.2; have q1 : rowIs wq g10 66 = true := (by have := rowIs_of hq.2.1; rwa [hartA_size] at this); have q2 : rowOf wq g10 = hartA (F.take 66) := rowOf_of hq.2.1; clear hq; first | (go_simp; done) | (go_simp; with_reducible rfl)
            simp only [Act.put, List.setIfInBounds_toArray, List.set_cons_zero, List.set_cons_succ]
            refine wpAnyH_take (i := 18) (oi := ⟨some 62, _, _, _, _, _⟩) (v := ?_) rfl (by kernel_rfl) (by kernel_rfl) (by kernel_rfl) (fun _ _ _ h => h) (Or.inl ⟨by kernel_rfl, ?_⟩) hH ?_
            rotate_left 1
            · intro wq hq; obtain ⟨r0, r3, r6, r7, r8⟩ := HRC.out wq hq.1; have re := HEC.out wq hq.2.2; have q1 : rowIs wq g10 66 = true := (by have := rowIs_of hq.2.1; rwa [hartA_size] at this); have q2 : rowOf wq g10 = hartA (F.take 66) := rowOf_of hq.2.1; clear hq; first | (go_simp; done) | (go_simp; with_reducible rfl)
            simp only [Act.put, List.setIfInBounds_toArray, List.set_cons_zero, List.set_cons_succ]
            refine wpAnyH_take (i := 19) (oi := ⟨some 63, _, _, _, _, _⟩) (v := ?_) rfl (by kernel_rfl) (by kernel_rfl) (by kernel_rfl) (fun _ _ _ h => h) (Or.inl ⟨by kernel_rfl, ?_⟩) hH ?_
            rotate_left 1
            · intro wq hq; obtain ⟨r0, r3, r6, r7, r8⟩ := HRC.out wq hq.1; have re := HEC.out wq hq.2.2; have q1 : rowIs wq g10 66 = true := (by have := rowIs_of hq.2.1; rwa [hartA_size] at this); have q2 : rowOf wq g10 = hartA (F.take 66) := rowOf_of hq.2.1; clear hq; first | (go_simp; done) | (go_simp; with_reducible rfl)
            simp only [Act.put, List.setIfInBounds_toArray, List.set_cons_zero, List.set_cons_succ]
            refine wpAnyH_take (i := 20) (oi := ⟨some 64, _, _, _, _, _⟩) (v := ?_) rfl (by kernel_rfl) (by kernel_rfl) (by kernel_rfl) (fun _ _ _ h => h) (Or.inl ⟨by kernel_rfl, ?_⟩) hH ?_
            rotate_left 1
            · intro wq hq; obtain ⟨r0, r3, r6, r7, r8⟩ := HRC.out wq hq.1; have re := HEC.out wq hq.2.2; have q1 : rowIs wq g10 66 = true := (by have := rowIs_of hq.2.1; rwa [hartA_size] at this); have q2 : rowOf wq g10 = hartA (F.take 66) := rowOf_of hq.2.1; clear hq; first | (go_simp; done) | (go_simp; with_reducible rfl)
            simp only [Act.put, List.setIfInBounds_toArray, List.set_cons_zero, List.set_cons_succ]
            refine wpAnyH_take (i := 21) (oi := ⟨some 65, _, _, _, _, _⟩) (v := ?_) rfl (by kernel_rfl) (by kernel_rfl) (by kernel_rfl) (fun _ _ _ h => h) (Or.inl ⟨by kernel_rfl, ?_⟩) hH ?_
            rotate_left 1
            · intro wq hq; obtain ⟨r0, r3, r6, r7, r8⟩ := HRC.out wq hq.1; have re := HEC.out wq hq.2.2; have q1 : rowIs wq g10 66 = true := (by have := rowIs_of hq.2.1; rwa [hartA_size] at this); have q2 : rowOf wq g10 = hartA (F.take 66) := rowOf_of hq.2.1; clear hq; first | (go_simp; done) | (go_simp; with_reducible rfl)
            simp only [Act.put, List.setIfInBounds_toArray, List.set_cons_zero, List.set_cons_succ]
            refine wpAnyH_take (i := 22) (oi := ⟨some 66, _, _, _, _, _⟩) (v := ?_) rfl (by kernel_rfl) (by kernel_rfl) (by kernel_rfl) (fun _ _ _ h => h) (Or.inl ⟨by kernel_rfl, ?_⟩) hH ?_
            rotate_left 1
            · intro wq hq; obtain ⟨r0, r3, r6, r7, r8⟩ := HRC.out wq hq.1; have re := HEC.out wq hq.2.2; have q1 : rowIs wq g10 66 = true := (by have := rowIs_of hq.2.1; rwa [hartA_size] at this); have q2 : rowOf wq g10 = hartA (F.take 66) := rowOf_of hq.2.1; clear hq; first | (go_simp; done) | (go_simp; with_reducible rfl)
            simp only [Act.put, List.setIfInBounds_toArray, List.set_cons_zero, List.set_cons_succ]
            refine wpAnyH_take (i := 23) (oi := ⟨some 67, _, _, _, _, _⟩) (v := ?_) rfl (by kernel_rfl) (by kernel_rfl) (by kernel_rfl) (fun _ _ _ h => h) (Or.inl ⟨by kernel_rfl, ?_⟩) hH ?_
            rotate_left 1
            · intro wq hq; obtain ⟨r0, r3, r6, r7, r8⟩ := HRC.out wq hq.1; have re := HEC.out wq hq.2.2; have q1 : rowIs wq g10 66 = true := (by have := rowIs_of hq.2.1; rwa [hartA_size] at this); have q2 : rowOf wq g10 = hartA (F.take 66) := rowOf_of hq.2.1; clear hq; first | (go_simp; done) | (go_simp; with_reducible rfl)
            simp only [Act.put, List.setIfInBounds_toArray, List.set_cons_zero, List.set_cons_succ]
            refine wpAnyH_take (i := 24) (oi := ⟨some 68, _, _, _, _, _⟩) (v := ?_) rfl (by kernel_rfl) (by kernel_rfl) (by kernel_rfl) (fun _ _ _ h => h) (Or.inl ⟨by kernel_rfl, ?_⟩) hH ?_
            rotate_left 1
            · intro wq hq; obtain ⟨r0, r3, r6, r7, r8⟩ := HRC.out wq hq.1; have re := HEC.out wq hq.2.2; have q1 : rowIs wq g10 66 = true := (by have := rowIs_of hq.2.1; rwa [hartA_size] at this); have q2 : rowOf wq g10 = hartA (F.take 66) := rowOf_of hq.2.1; clear hq; first | (go_simp; done) | (go_simp; with_reducible rfl)
            simp only [Act.put, List.setIfInBounds_toArray, List.set_cons_zero, List.set_cons_succ]
            refine wpAnyH_take (i := 25) (oi := ⟨some 69, _, _, _, _, _⟩) (v := ?_) rfl (by kernel_rfl) (by kernel_rfl) (by kernel_rfl) (fun _ _ _ h => h) (Or.inl ⟨by kernel_rfl, ?_⟩) hH ?_
            rotate_left 1
            · intro wq hq; obtain ⟨r0, r3, r6, r7, r8⟩ := HRC.out wq hq.1; have re := HEC.out wq hq.2.2; have q1 : rowIs wq g10 66 = true := (by have := rowIs_of hq.2.1; rwa [hartA_size] at this); have q2 : rowOf wq g10 = hartA (F.take 66) := rowOf_of hq.2.1; clear hq; first | (go_simp; done) | (go_simp; with_reducible rfl)
            simp only [Act.put, List.setIfInBounds_toArray, List.set_cons_zero, List.set_cons_succ]
            refine wpAnyH_take (i := 26) (oi := ⟨some 70, _, _, _, _, _⟩) (v := ?_) rfl (by kernel_rfl) (by kernel_rfl) (by kernel_rfl) (fun _ _ _ h => h) (Or.inl ⟨by kernel_rfl, ?_⟩) hH ?_
            rotate_left 1
            · intro wq hq; obtain ⟨r0, r3, r6, r7, r8⟩ := HRC.out wq hq.1; have re := HEC.out wq hq.2.2; have q1 : rowIs wq g10 66 = true := (by have := rowIs_of hq.2.1; rwa [hartA_size] at this); have q2 : rowOf wq g10 = hartA (F.take 66) := rowOf_of hq.2.1; clear hq; first | (go_simp; done) | (go_simp; with_reducible rfl)
            simp only [Act.put, List.setIfInBounds_toArray, List.set_cons_zero, List.set_cons_succ]
            refine wpAnyH_take (i := 27) (oi := ⟨some 71, _, _, _, _, _⟩) (v := ?_) rfl (by kernel_rfl) (by kernel_rfl) (by kernel_rfl) (fun _ _ _ h => h) (Or.inl ⟨by kernel_rfl, ?_⟩) hH ?_
            rotate_left 1
            · intro wq hq; obtain ⟨r0, r3, r6, r7, r8⟩ := HRC.out wq hq.1; have re := HEC.out wq hq.2.2; have q1 : rowIs wq g10 66 = true := (by have := rowIs_of hq.2.1; rwa [hartA_size] at this); have q2 : rowOf wq g10 = hartA (F.take 66) := rowOf_of hq.2.1; clear hq; first | (go_simp; done) | (go_simp; with_reducible rfl)
            simp only [Act.put, List.setIfInBounds_toArray, List.set_cons_zero, List.set_cons_succ]
            refine wpAnyH_take (i := 28) (oi := ⟨some 72, _, _, _, _, _⟩) (v := ?_) rfl (by kernel_rfl) (by kernel_rfl) (by kernel_rfl) (fun _ _ _ h => h) (Or.inl ⟨by kernel_rfl, ?_⟩) hH ?_
            rotate_left 1
            · intro wq hq; obtain ⟨r0, r3, r6, r7, r8⟩ := HRC.out wq hq.1; have re := HEC.out wq hq.2.2; have q1 : rowIs wq g10 66 = true := (by have := rowIs_of hq.2.1; rwa [hartA_size] at this); have q2 : rowOf wq g10 = hartA (F.take 66) := rowOf_of hq.2.1; clear hq; first | (go_simp; done) | (go_simp; with_reducible rfl)
            simp only [Act.put, List.setIfInBounds_toArray, List.set_cons_zero, List.set_cons_succ]
            refine wpAnyH_take (i := 29) (oi := ⟨some 73, _, _, _, _, _⟩) (v := ?_) rfl (by kernel_rfl) (by kernel_rfl) (by kernel_rfl) (fun _ _ _ h => h) (Or.inl ⟨by kernel_rfl, ?_⟩) hH ?_
            rotate_left 1
            · intro wq hq; obtain ⟨r0, r3, r6, r7, r8⟩ := HRC.out wq hq.1; have re := HEC.out wq hq.2.2; have q1 : rowIs wq g10 66 = true := (by have := rowIs_of hq.2.1; rwa [hartA_size] at this); have q2 : rowOf wq g10 = hartA (F.take 66) := rowOf_of hq.2.1; clear hq; first | (go_simp; done) | (go_simp; with_reducible rfl)
            simp only [Act.put, List.setIfInBounds_toArray, List.set_cons_zero, List.set_cons_succ]
            refine wpAnyH_take (i := 30) (oi := ⟨some 74, _, _, _, _, _⟩) (v := ?_) rfl (by kernel_rfl) (by kernel_rfl) (by kernel_rfl) (fun _ _ _ h => h) (Or.inl ⟨by kernel_rfl, ?_⟩) hH ?_
            rotate_left 1
            · intro wq hq; obtain ⟨r0, r3, r6, r7, r8⟩ := HRC.out wq hq.1; have re := HEC.out wq hq.2.2; have q1 : rowIs wq g10 66 = true := (by have := rowIs_of hq.2.1; rwa [hartA_size] at this); have q2 : rowOf wq g10 = hartA (F.take 66) := rowOf_of hq.2.1; clear hq; first | (go_simp; done) | (go_simp; with_reducible rfl)
            simp only [Act.put, List.setIfInBounds_toArray, List.set_cons_zero, List.set_cons_succ]
            refine wpAnyH_take (i := 31) (oi := ⟨some 75, _, _, _, _, _⟩) (v := ?_) rfl (by kernel_rfl) (by kernel_rfl) (by kernel_rfl) (fun _ _ _ h => h) (Or.inl ⟨by kernel_rfl, ?_⟩) hH ?_
            rotate_left 1
            · intro wq hq; obtain ⟨r0, r3, r6, r7, r8⟩ := HRC.out wq hq.1; have re := HEC.out wq hq.2.2; have q1 : rowIs wq g10 66 = true := (by have := rowIs_of hq.2.1; rwa [hartA_size] at this); have q2 : rowOf wq g10 = hartA (F.take 66) := rowOf_of hq.2.1; clear hq; first | (go_simp; done) | (go_simp; with_reducible rfl)
            simp only [Act.put, List.setIfInBounds_toArray, List.set_cons_zero, List.set_cons_succ]
            refine wpAnyH_take (i := 32) (oi := ⟨some 76, _, _, _, _, _⟩) (v := ?_) rfl (by kernel_rfl) (by kernel_rfl) (by kernel_rfl) (fun _ _ _ h => h) (Or.inl ⟨by kernel_rfl, ?_⟩) hH ?_
            rotate_left 1
            · intro wq hq; obtain ⟨r0, r3, r6, r7, r8⟩ := HRC.out wq hq.1; have re := HEC.out wq hq.2.2; have q1 : rowIs wq g10 66 = true := (by have := rowIs_of hq.2.1; rwa [hartA_size] at this); have q2 : rowOf wq g10 = hartA (F.take 66) := rowOf_of hq.2.1; clear hq; first | (go_simp; done) | (go_simp; with_reducible rfl)
            simp only [Act.put, List.setIfInBounds_toArray, List.set_cons_zero, List.set_cons_succ]
            refine wpAnyH_take (i := 33) (oi := ⟨some 77, _, _, _, _, _⟩) (v := ?_) rfl (by kernel_rfl) (by kernel_rfl) (by kernel_rfl) (fun _ _ _ h => h) (Or.inl ⟨by kernel_rfl, ?_⟩) hH ?_
            rotate_left 1
            · intro wq hq; obtain ⟨r0, r3, r6, r7, r8⟩ := HRC.out wq hq.1; have re := HEC.out wq hq.2.2; have q1 : rowIs wq g10 66 = true := (by have := rowIs_of hq.2.1; rwa [hartA_size] at this); have q2 : rowOf wq g10 = hartA (F.take 66) := rowOf_of hq.2.1; clear hq; first | (go_simp; done) | (go_simp; with_reducible rfl)
            simp only [Act.put, List.setIfInBounds_toArray, List.set_cons_zero, List.set_cons_succ]
            refine wpAnyH_take (i := 34) (oi := ⟨some 78, _, _, _, _, _⟩) (v := ?_) rfl (by kernel_rfl) (by kernel_rfl) (by kernel_rfl) (fun _ _ _ h => h) (Or.inl ⟨by kernel_rfl, ?_⟩) hH ?_
            rotate_left 1
            · intro wq hq; obtain ⟨r0, r3, r6, r7, r8⟩ := HRC.out wq hq.1; have re := HEC.out wq hq.2.2; have q1 : rowIs wq g10 66 = true := (by have := rowIs_of hq.2.1; rwa [hartA_size] at this); have q2 : rowOf wq g10 = hartA (F.take 66) := rowOf_of hq.2.1; clear hq; first | (go_simp; done) | (go_simp; with_reducible rfl)
            simp only [Act.put, List.setIfInBounds_toArray, List.set_cons_zero, List.set_cons_succ]
            refine wpAnyH_take (i := 35) (oi := ⟨some 79, _, _, _, _, _⟩) (v := ?_) rfl (by kernel_rfl) (by kernel_rfl) (by kernel_rfl) (fun _ _ _ h => h) (Or.inl ⟨by kernel_rfl, ?_⟩) hH ?_
            rotate_left 1
            · intro wq hq; obtain ⟨r0, r3, r6, r7, r8⟩ := HRC.out wq hq.1; have re := HEC.out wq hq.2.2; have q1 : rowIs wq g10 66 = true := (by have := rowIs_of hq.2.1; rwa [hartA_size] at this); have q2 : rowOf wq g10 = hartA (F.take 66) := rowOf_of hq.2.1; clear hq; first | (go_simp; done) | (go_simp; with_reducible rfl)
            simp only [Act.put, List.setIfInBounds_toArray, List.set_cons_zero, List.set_cons_succ]
            refine wpAnyH_take (i := 36) (oi := ⟨some 80, _, _, _, _, _⟩) (v := ?_) rfl (by kernel_rfl) (by kernel_rfl) (by kernel_rfl) (fun _ _ _ h => h) (Or.inl ⟨by kernel_rfl, ?_⟩) hH ?_
            rotate_left 1
            · intro wq hq; obtain ⟨r0, r3, r6, r7, r8⟩ := HRC.out wq hq.1; have re := HEC.out wq hq.2.2; have q1 : rowIs wq g10 66 = true := (by have := rowIs_of hq.2.1; rwa [hartA_size] at this); have q2 : rowOf wq g10 = hartA (F.take 66) := rowOf_of hq.2.1; clear hq; first | (go_simp; done) | (go_simp; with_reducible rfl)
            simp only [Act.put, List.setIfInBounds_toArray, List.set_cons_zero, List.set_cons_succ]
            refine wpAnyH_take (i := 37) (oi := ⟨some 81, _, _, _, _, _⟩) (v := ?_) rfl (by kernel_rfl) (by kernel_rfl) (by kernel_rfl) (fun _ _ _ h => h) (Or.inl ⟨by kernel_rfl, ?_⟩) hH ?_
            rotate_left 1
            · intro wq hq; obtain ⟨r0, r3, r6, r7, r8⟩ := HRC.out wq hq.1; have re := HEC.out wq hq.2.2; have q1 : rowIs wq g10 66 = true := (by have := rowIs_of hq.2.1; rwa [hartA_size] at this); have q2 : rowOf wq g10 = hartA (F.take 66) := rowOf_of hq.2.1; clear hq; first | (go_simp; done) | (go_simp; with_reducible rfl)
            simp only [Act.put, List.setIfInBounds_toArray, List.set_cons_zero, List.set_cons_succ]
            refine wpAnyH_take (i := 38) (oi := ⟨some 82, _, _, _, _, _⟩) (v := ?_) rfl (by kernel_rfl) (by kernel_rfl) (by kernel_rfl) (fun _ _ _ h => h) (Or.inl ⟨by kernel_rfl, ?_⟩) hH ?_
            rotate_left 1
            · intro wq hq; obtain ⟨r0, r3, r6, r7, r8⟩ := HRC.out wq hq.1; have re := HEC.out wq hq.2.2; have q1 : rowIs wq g10 66 = true := (by have := rowIs_of hq.2.1; rwa [hartA_size] at this); have q2 : rowOf wq g10 = hartA (F.take 66) := rowOf_of hq.2.1; clear hq; first | (go_simp; done) | (go_simp; with_reducible rfl)
            simp only [Act.put, List.setIfInBounds_toArray, List.set_cons_zero, List.set_cons_succ]
            refine wpAnyH_take (i := 39) (oi := ⟨some 83, _, _, _, _, _⟩) (v := ?_) rfl (by kernel_rfl) (by kernel_rfl) (by kernel_rfl) (fun _ _ _ h => h) (Or.inl ⟨by kernel_rfl, ?_⟩) hH ?_
            rotate_left 1
            · intro wq hq; obtain ⟨r0, r3, r6, r7, r8⟩ := HRC.out wq hq.1; have re := HEC.out wq hq.2.2; have q1 : rowIs wq g10 66 = true := (by have := rowIs_of hq.2.1; rwa [hartA_size] at this); have q2 : rowOf wq g10 = hartA (F.take 66) := rowOf_of hq.2.1; clear hq; first | (go_simp; done) | (go_simp; with_reducible rfl)
            simp only [Act.put, List.setIfInBounds_toArray, List.set_cons_zero, List.set_cons_succ]
            refine wpAnyH_take (i := 40) (oi := ⟨some 84, _, _, _, _, _⟩) (v := ?_) rfl (by kernel_rfl) (by kernel_rfl) (by kernel_rfl) (fun _ _ _ h => h) (Or.inl ⟨by kernel_rfl, ?_⟩) hH ?_
            rotate_left 1
            · intro wq hq; obtain ⟨r0, r3, r6, r7, r8⟩ := HRC.out wq hq.1; have re := HEC.out wq hq.2.2; have q1 : rowIs wq g10 66 = true := (by have := rowIs_of hq.2.1; rwa [hartA_size] at this); have q2 : rowOf wq g10 = hartA (F.take 66) := rowOf_of hq.2.1; clear hq; first | (go_simp; done) | (go_simp; with_reducible rfl)
            simp only [Act.put, List.setIfInBounds_toArray, List.set_cons_zero, List.set_cons_succ]
            refine wpAnyH_take (i := 41) (oi := ⟨some 85, _, _, _, _, _⟩) (v := ?_) rfl (by kernel_rfl) (by kernel_rfl) (by kernel_rfl) (fun _ _ _ h => h) (Or.inl ⟨by kernel_rfl, ?_⟩) hH ?_
            rotate_left 1
            · intro wq hq; obtain ⟨r0, r3, r6, r7, r8⟩ := HRC.out wq hq.1; have re := HEC.out wq hq.2.2; have q1 : rowIs wq g10 66 = true := (by have := rowIs_of hq.2.1; rwa [hartA_size] at this); have q2 : rowOf wq g10 = hartA (F.take 66) := rowOf_of hq.2.1; clear hq; first | (go_simp; done) | (go_simp; with_reducible rfl)
            simp only [Act.put, List.setIfInBounds_toArray, List.set_cons_zero, List.set_cons_succ]
            refine wpAnyH_take (i := 42) (oi := ⟨some 86, _, _, _, _, _⟩) (v := ?_) rfl (by kernel_rfl) (by kernel_rfl) (by kernel_rfl) (fun _ _ _ h => h) (Or.inl ⟨by kernel_rfl, ?_⟩) hH ?_
            rotate_left 1
            · intro wq hq; obtain ⟨r0, r3, r6, r7, r8⟩ := HRC.out wq hq.1; have re := HEC.out wq hq.2.2; have q1 : rowIs wq g10 66 = true := (by have := rowIs_of hq.2.1; rwa [hartA_size] at this); have q2 : rowOf wq g10 = hartA (F.take 66) := rowOf_of hq.2.1; clear hq; first | (go_simp; done) | (go_simp; with_reducible rfl)
            simp only [Act.put, List.setIfInBounds_toArray, List.set_cons_zero, List.set_cons_succ]
            refine wpAnyH_take (i := 43) (oi := ⟨some 87, _, _, _, _, _⟩) (v := ?_) rfl (by kernel_rfl) (by kernel_rfl) (by kernel_rfl) (fun _ _ _ h => h) (Or.inl ⟨by kernel_rfl, ?_⟩) hH ?_
            rotate_left 1
            · intro wq hq; obtain ⟨r0, r3, r6, r7, r8⟩ := HRC.out wq hq.1; have re := HEC.out wq hq.2.2; have q1 : rowIs wq g10 66 = true := (by have := rowIs_of hq.2.1; rwa [hartA_size] at this); have q2 : rowOf wq g10 = hartA (F.take 66) := rowOf_of hq.2.1; clear hq; first | (go_simp; done) | (go_simp; with_reducible rfl)
            simp only [Act.put, List.setIfInBounds_toArray, List.set_cons_zero, List.set_cons_succ]
            refine wpAnyH_take (i := 44) (oi := ⟨some 88, _, _, _, _, _⟩) (v := ?_) rfl (by kernel_rfl) (by kernel_rfl) (by kernel_rfl) (fun _ _ _ h => h) (Or.inl ⟨by kernel_rfl, ?_⟩) hH ?_
            rotate_left 1
            · intro wq hq; obtain ⟨r0, r3, r6, r7, r8⟩ := HRC.out wq hq.1; have re := HEC.out wq hq.2.2; have q1 : rowIs wq g10 66 = true := (by have := rowIs_of hq.2.1; rwa [hartA_size] at this); have q2 : rowOf wq g10 = hartA (F.take 66) := rowOf_of hq.2.1; clear hq; first | (go_simp; done) | (go_simp; with_reducible rfl)
            simp only [Act.put, List.setIfInBounds_toArray, List.set_cons_zero, List.set_cons_succ]
            refine wpAnyH_take (i := 45) (oi := ⟨some 89, _, _, _, _, _⟩) (v := ?_) rfl (by kernel_rfl) (by kernel_rfl) (by kernel_rfl) (fun _ _ _ h => h) (Or.inl ⟨by kernel_rfl, ?_⟩) hH ?_
            rotate_left 1
            · intro wq hq; obtain ⟨r0, r3, r6, r7, r8⟩ := HRC.out wq hq.1; have re := HEC.out wq hq.2.2; have q1 : rowIs wq g10 66 = true := (by have := rowIs_of hq.2.1; rwa [hartA_size] at this); have q2 : rowOf wq g10 = hartA (F.take 66) := rowOf_of hq.2.1; clear hq; first | (go_simp; done) | (go_simp; with_reducible rfl)
            simp only [Act.put, List.setIfInBounds_toArray, List.set_cons_zero, List.set_cons_succ]
            refine wpAnyH_take (i := 46) (oi := ⟨some 90, _, _, _, _, _⟩) (v := ?_) rfl (by kernel_rfl) (by kernel_rfl) (by kernel_rfl) (fun _ _ _ h => h) (Or.inl ⟨by kernel_rfl, ?_⟩) hH ?_
            rotate_left 1
            · intro wq hq; obtain ⟨r0, r3, r6, r7, r8⟩ := HRC.out wq hq.1; have re := HEC.out wq hq.2.2; have q1 : rowIs wq g10 66 = true := (by have := rowIs_of hq.2.1; rwa [hartA_size] at this); have q2 : rowOf wq g10 = hartA (F.take 66) := rowOf_of hq.2.1; clear hq; first | (go_simp; done) | (go_simp; with_reducible rfl)
            simp only [Act.put, List.setIfInBounds_toArray, List.set_cons_zero, List.set_cons_succ]
            refine wpAnyH_done (by kernel_rfl) ?_ _
            clear hH
            go_wp2_with fail
            refine wp_region_held_drew (S := fun wq => wq.heap[g9]? = some (.cells (recA (F.drop 66)) 30 (0, 0)) ∧ wq.heap[g10]? = some (.cells (hartA (F.take 66)) 43 (0, 0))) (by kernel_rfl) ⟨HREC9.out, HHA9.out⟩ (fun hH => ?_)
            refine wpAnyH_take (i := 0) (oi := ⟨some 91, _, _, _, _, _⟩) (v := ?_) rfl (by kernel_rfl) (by kernel_rfl) (by kernel_rfl) (fun _ _ _ h => h) (Or.inl ⟨by kernel_rfl, ?_⟩) hH ?_
            rotate_left 1
            · intro wq hq; obtain ⟨r0, r3, r6, r7, r8⟩ := HRC.out wq hq.1; clear hq; first | (go_simp; done) | (go_simp; with_reducible rfl)
            simp only [Act.put, List.setIfInBounds_toArray, List.set_cons_zero, List.set_cons_succ]
            refine wpAnyH_take (i := 1) (oi := ⟨some 92, _, _, _, _, _⟩) (v := ?_) rfl (by kernel_rfl) (by kernel_rfl) (by kernel_rfl) (fun _ _ _ h => h) (Or.inl ⟨by kernel_rfl, ?_⟩) hH ?_
            rotate_left 1
            · intro wq hq; obtain ⟨r0, r3, r6, r7, r8⟩ := HRC.out wq hq.1; clear hq; first | (go_simp; done) | (go_simp; with_reducible rfl)
            simp only [Act.put, List.setIfInBounds_toArray, List.set_cons_zero, List.set_cons_succ]
            refine wpAnyH_take (i := 2) (oi := ⟨some 93, _, _, _, _, _⟩) (v := ?_) rfl (by kernel_rfl) (by kernel_rfl) (by kernel_rfl) (fun _ _ _ h => h) (Or.inl ⟨by kernel_rfl, ?_⟩) hH ?_
            rotate_left 1
            · intro wq hq; obtain ⟨r0, r3, r6, r7, r8⟩ := HRC.out wq hq.1; clear hq; first | (go_simp; done) | (go_simp; with_reducible rfl)
            simp only [Act.put, List.setIfInBounds_toArray, List.set_cons_zero, List.set_cons_succ]
            refine wpAnyH_take (i := 3) (oi := ⟨some 94, _, _, _, _, _⟩) (v := ?_) rfl (by kernel_rfl) (by kernel_rfl) (by kernel_rfl) (fun _ _ _ h => h) (Or.inl ⟨by kernel_rfl, ?_⟩) hH ?_
            rotate_left 1
            · intro wq hq; obtain ⟨r0, r3, r6, r7, r8⟩ := HRC.out wq hq.1; clear hq; first | (go_simp; done) | (go_simp; with_reducible rfl)
            simp only [Act.put, List.setIfInBounds_toArray, List.set_cons_zero, List.set_cons_succ]
            refine wpAnyH_take (i := 4) (oi := ⟨some 95, _, _, _, _, _⟩) (v := undef) rfl (by kernel_rfl) (by kernel_rfl) (by kernel_rfl) (fun _ _ _ h => h) (Or.inr ⟨by kernel_rfl, rfl⟩) hH ?_
            simp only [Act.put, List.setIfInBounds_toArray, List.set_cons_zero, List.set_cons_succ]
            refine wpAnyH_take (i := 5) (oi := ⟨some 96, _, _, _, _, _⟩) (v := undef) rfl (by kernel_rfl) (by kernel_rfl) (by kernel_rfl) (fun _ _ _ h => h) (Or.inr ⟨by kernel_rfl, rfl⟩) hH ?_
            simp only [Act.put, List.setIfInBounds_toArray, List.set_cons_zero, List.set_cons_succ]
            refine wpAnyH_take (i := 6) (oi := ⟨some 97, _, _, _, _, _⟩) (v := undef) rfl (by kernel_rfl) (by kernel_rfl) (by kernel_rfl) (fun _ _ _ h => h) (Or.inr ⟨by kernel_rfl, rfl⟩) hH ?_
            simp only [Act.put, List.setIfInBounds_toArray, List.set_cons_zero, List.set_cons_succ]
            refine wpAnyH_take (i := 7) (oi := ⟨some 98, _, _, _, _, _⟩) (v := undef) rfl (by kernel_rfl) (by kernel_rfl) (by kernel_rfl) (fun _ _ _ h => h) (Or.inr ⟨by kernel_rfl, rfl⟩) hH ?_
            simp only [Act.put, List.setIfInBounds_toArray, List.set_cons_zero, List.set_cons_succ]
            refine wpAnyH_take (i := 8) (oi := ⟨some 99, _, _, _, _, _⟩) (v := undef) rfl (by kernel_rfl) (by kernel_rfl) (by kernel_rfl) (fun _ _ _ h => h) (Or.inr ⟨by kernel_rfl, rfl⟩) hH ?_
            simp only [Act.put, List.setIfInBounds_toArray, List.set_cons_zero, List.set_cons_succ]
            refine wpAnyH_take (i := 9) (oi := ⟨some 100, _, _, _, _, _⟩) (v := undef) rfl (by kernel_rfl) (by kernel_rfl) (by kernel_rfl) (fun _ _ _ h => h) (Or.inr ⟨by kernel_rfl, rfl⟩) hH ?_
            simp only [Act.put, List.setIfInBounds_toArray, List.set_cons_zero, List.set_cons_succ]
            refine wpAnyH_take (i := 10) (oi := ⟨some 101, _, _, _, _, _⟩) (v := undef) rfl (by kernel_rfl) (by kernel_rfl) (by kernel_rfl) (fun _ _ _ h => h) (Or.inr ⟨by kernel_rfl, rfl⟩) hH ?_
            simp only [Act.put, List.setIfInBounds_toArray, List.set_cons_zero, List.set_cons_succ]
            refine wpAnyH_take (i := 11) (oi := ⟨some 102, _, _, _, _, _⟩) (v := undef) rfl (by kernel_rfl) (by kernel_rfl) (by kernel_rfl) (fun _ _ _ h => h) (Or.inr ⟨by kernel_rfl, rfl⟩) hH ?_
            simp only [Act.put, List.setIfInBounds_toArray, List.set_cons_zero, List.set_cons_succ]
            refine wpAnyH_take (i := 12) (oi := ⟨some 103, _, _, _, _, _⟩) (v := ?_) rfl (by kernel_rfl) (by kernel_rfl) (by kernel_rfl) (fun _ _ _ h => h) (Or.inl ⟨by kernel_rfl, ?_⟩) hH ?_
            rotate_left 1
            · intro wq hq; obtain ⟨r0, r3, r6, r7, r8⟩ := HRC.out wq hq.1; clear hq; first | (go_simp; done) | (go_simp; with_reducible rfl)
            simp only [Act.put, List.setIfInBounds_toArray, List.set_cons_zero, List.set_cons_succ]
            refine wpAnyH_done (by kernel_rfl) ?_ _
            clear hH
            have HKD := Lib.hid (HK9.out.on (Below.refl _ _).drew)
            clear HREC9 HHA9 HK9 HRC HEC HSAY HRNG HE HEB HEV
            go_wp2_with fail
            exact ⟨⟨k + 1, S2, _, _, by omega, by omega, by rw [Int.natCast_succ], HKD.out⟩, by simp [intOf]; omega⟩
          · obtain rfl : TR = 0 := by have := HT.out; omega
            clear HT HT1
            by_cases hr0 : rd = 0
            · subst hr0
              obtain rfl : VA = 0 := HV0.out rfl
              clear HV0 HHX
              refine wp_region_held_drew (S := fun wq => wq.heap[g9]? = some (.cells (recA (F.drop 66)) 30 (0, 0)) ∧ wq.heap[g10]? = some (.cells (hartA (F.take 66)) 43 (0, 0)) ∧ wq.rangeAt eb (eo + k * 10) (cksV envC (evs k))) (by kernel_rfl) ⟨HREC8.out, HHA.out, HRNG.out _ HK8.out.below.drew⟩ (fun hH => ?_)
              refine wpAnyH_take (i := 0) (oi := ⟨some 44, _, _, _, _, _⟩) (v := ?_) rfl (by kernel_rfl) (by kernel_rfl) (by kernel_rfl) (fun _ _ _ h => h) (Or.inl ⟨by kernel_rfl, ?_⟩) hH ?_
              rotate_left 1
              · intro wq hq; obtain ⟨r0, r3, r6, r7, r8⟩ := HRC.out wq hq.1; have re := HEC.out wq hq.2.2; have q1 : rowIs wq g10 66 = true := (by have := rowIs_of hq.2.1; rwa [hartA_size] at this); have q2 : rowOf wq g10 = hartA (F.take 66) := rowOf_of hq.2.1; clear hq; first | (go_simp; done) | (go_simp; with_reducible rfl)
              simp only [Act.put, List.setIfInBounds_toArray, List.set_cons_zero, List.set_cons_succ]
              refine wpAnyH_ready (rs := [1]) (by kernel_rfl) (by simp) (AllReadyH.cons (o := ⟨some 45, _, _, _, _, _⟩) rfl (fun K hK => ?_) AllReadyH.nil)
              go_simp
              refine (HSAY.out _).mono ?_
              rintro e w9 ⟨rfl, hb⟩
              have HK9 := Lib.hid ((HK8.out.on (Below.refl _ _).drew).on hb)
              have HREC9 : Hid (w9.heap[g9]? = some (.cells (recA (F.drop 66)) 30 (0, 0))) := (hb.block _ (blk_lt HREC8.out)).trans HREC8.out
              have HHA9 : Hid (w9.heap[g10]? = some (.cells (hartA (F.take 66)) 43 (0, 0))) := (hb.block _ (blk_lt HHA.out)).trans HHA.out
              clear hb HK8 HREC8 HHA
              go_wp2_with fail
              refine hK.out _ _ ⟨HREC9.out, HHA9.out, HRNG.out _ HK9.out.below⟩ (fun hH => ?_)
              clear hK K
              try simp only [Act.put, List.setIfInBounds_toArray, List.set_cons_zero, List.set_cons_succ]
              refine wpAnyH_take (i := 2) (oi := ⟨some 46, _, _, _, _, _⟩) (v := ?_) rfl (by kernel_rfl) (by kernel_rfl) (by kernel_rfl) (fun _ _ _ h => h) (Or.inl ⟨by kernel_rfl, ?_⟩) hH ?_
              rotate_left 1
              · intro wq hq; obtain ⟨r0, r3, r6, r7, r8⟩ := HRC.out wq hq.1; have re := HEC.out wq hq.2.2; have q1 : rowIs wq g10 66 = true := (by have := rowIs_of hq.2.1; rwa [hartA_size] at this); have q2 : rowOf wq g10 = hartA (F.take 66) := rowOf_of hq.2.1; clear hq; first | (go_simp; done) | (go_simp; with_reducible rfl)
              simp only [Act.put, List.setIfInBounds_toArray, List.set_cons_zero, List.set_cons_succ]
              refine wpAnyH_take (i := 3) (oi := ⟨some 47, _, _, _, _, _⟩) (v := ?_) rfl (by kernel_rfl) (by kernel_rfl) (by kernel_rfl) (fun _ _ _ h => h) (Or.inl ⟨by kernel_rfl, ?_⟩) hH ?_
              rotate_left 1
              · intro wq hq; obtain ⟨r0, r3, r6, r7, r8⟩ := HRC.out wq hq.1; have re := HEC.out wq hq.2.2; have q1 : rowIs wq g10 66 = true := (by have := rowIs_of hq.2.1; rwa [hartA_size] at this); have q2 : rowOf wq g10 = hartA (F.take 66) := rowOf_of hq.2.1; clear hq; first | (go_simp; done) | (go_simp; with_reducible rfl)
              simp only [Act.put, List.setIfInBounds_toArray, List.set_cons_zero, List.set_cons_succ]
              refine wpAnyH_take (i := 4) (oi := ⟨some 48, _, _, _, _, _⟩) (v := ?_) rfl (by kernel_rfl) (by kernel_rfl) (by kernel_rfl) (fun _ _ _ h => h) (Or.inl ⟨by kernel_rfl, ?_⟩) hH ?_
              rotate_left 1
              · intro wq hq; obtain ⟨r0, r3, r6, r7, r8⟩ := HRC.out wq hq.1; have re := HEC.out wq hq.2.2; have q1 : rowIs wq g10 66 = true := (by have := rowIs_of hq.2.1; rwa [hartA_size] at this); have q2 : rowOf wq g10 = hartA (F.take 66) := rowOf_of hq.2.1; clear hq; first | (go_simp; done) | (go_simp; with_reducible rfl)
              simp only [Act.put, List.setIfInBounds_toArray, List.set_cons_zero, List.set_cons_succ]
              refine wpAnyH_take (i := 5) (oi := ⟨some 49, _, _, _, _, _⟩) (v := ?_) rfl (by kernel_rfl) (by kernel_rfl) (by kernel_rfl) (fun _ _ _ h => h) (Or.inl ⟨by kernel_rfl, ?_⟩) hH ?_
              rotate_left 1
              · intro wq hq; obtain ⟨r0, r3, r6, r7, r8⟩ := HRC.out wq hq.1; have re := HEC.out wq hq.2.2; have q1 : rowIs wq g10 66 = true := (by have := rowIs_of hq.2.1; rwa [hartA_size] at this); have q2 : rowOf wq g10 = hartA (F.take 66) := rowOf_of hq.2.1; clear hq; first | (go_simp; done) | (go_simp; with_reducible rfl)
              simp only [Act.put, List.setIfInBounds_toArray, List.set_cons_zero, List.set_cons_succ]
              refine wpAnyH_take (i := 6) (oi := ⟨some 50, _, _, _, _, _⟩) (v := ?_) rfl (by kernel_rfl) (by kernel_rfl) (by kernel_rfl) (fun _ _ _ h => h) (Or.inl ⟨by kernel_rfl, ?_⟩) hH ?_
              rotate_left 1
              · intro wq hq; obtain ⟨r0, r3, r6, r7, r8⟩ := HRC.out wq hq.1; have re := HEC.out wq hq.2.2; have q1 : rowIs wq g10 66 = true := (by have := rowIs_of hq.2.1; rwa [hartA_size] at this); have q2 : rowOf wq g10 = hartA (F.take 66) := rowOf_of hq.2.1; clear hq; first | (go_simp; done) | (go_simp; with_reducible rfl)
              simp only [Act.put, List.setIfInBounds_toArray, List.set_cons_zero, List.set_cons_succ]
              refine wpAnyH_take (i := 7) (oi := ⟨some 51, _, _, _, _, _⟩) (v := ?_) rfl (by kernel_rfl) (by kernel_rfl) (by kernel_rfl) (fun _ _ _ h => h) (Or.inl ⟨by kernel_rfl, ?_⟩) hH ?_
              rotate_left 1
              · intro wq hq; obtain ⟨r0, r3, r6, r7, r8⟩ := HRC.out wq hq.1; have re := HEC.out wq hq.2.2; have q1 : rowIs wq g10 66 = true := (by have := rowIs_of hq.2.1; rwa [hartA_size] at this); have q2 : rowOf wq g10 = hartA (F.take 66) := rowOf_of hq.2.1; clear hq; first | (go_simp; done) | (go_simp; with_reducible rfl)
              simp only [Act.put, List.setIfInBounds_toArray, List.set_cons_zero, List.set_cons_succ]
              refine wpAnyH_take (i := 8) (oi := ⟨some 52, _, _, _, _, _⟩) (v := ?_) rfl (by kernel_rfl) (by kernel_rfl) (by kernel_rfl) (fun _ _ _ h => h) (Or.inl ⟨by kernel_rfl, ?_⟩) hH ?_
              rotate_left 1
              · intro wq hq; obtain ⟨r0, r3, r6, r7, r8⟩ := HRC.out wq hq.1; have re := HEC.out wq hq.2.2; have q1 : rowIs wq g10 66 = true := (by have := rowIs_of hq.2.1; rwa [hartA_size] at this); have q2 : rowOf wq g10 = hartA (F.take 66) := rowOf_of hq.2.1; clear hq; first | (go_simp; done) | (go_simp; with_reducible rfl)
              simp only [Act.put, List.setIfInBounds_toArray, List.set_cons_zero, List.set_cons_succ]
              refine wpAnyH_take (i := 9) (oi := ⟨some 53, _, _, _, _, _⟩) (v := ?_) rfl (by kernel_rfl) (by kernel_rfl) (by kernel_rfl) (fun _ _ _ h => h) (Or.inl ⟨by kernel_rfl, ?_⟩) hH ?_
              rotate_left 1
              · intro wq hq; obtain ⟨r0, r3, r6, r7, r8⟩ := HRC.out wq hq.1; have re := HEC.out wq hq.2.2; have q1 : rowIs wq g10 66 = true := (by have := rowIs_of hq.2.1; rwa [hartA_size] at this); have q2 : rowOf wq g10 = hartA (F.take 66) := rowOf_of hq.2.1; clear hq; first | (go_simp; done) | (go_simp; with_reducible rfl)
              simp only [Act.put, List.setIfInBounds_toArray, List.set_cons_zero, List.set_cons_succ]
              refine wpAnyH_take (i := 10) (oi := ⟨some 54, _, _, _, _, _⟩) (v := ?_) rfl (by kernel_rfl) (by kernel_rfl) (by kernel_rfl) (fun _ _ _ h => h) (Or.inl ⟨by kernel_rfl, ?_⟩) hH ?_
              rotate_left 1
              · intro wq hq; obtain ⟨r0, r3, r6, r7, r8⟩ := HRC.out wq hq.1; have re := HEC.out wq hq.2.2; have q1 : rowIs wq g10 66 = true := (by have := rowIs_of hq.2.1; rwa [hartA_size] at this); have q2 : rowOf wq g10 = hartA (F.take 66) := rowOf_of hq.2.1; clear hq; first | (go_simp; done) | (go_simp; with_reducible rfl)
              simp only [Act.put, List.setIfInBounds_toArray, List.set_cons_zero, List.set_cons_succ]
              refine wpAnyH_take (i := 11) (oi := ⟨some 55, _, _, _, _, _⟩) (v := ?_) rfl (by kernel_rfl) (by kernel_rfl) (by kernel_rfl) (fun _ _ _ h => h) (Or.inl ⟨by kernel_rfl, ?_⟩) hH ?_
              rotate_left 1
              · intro wq hq; obtain ⟨r0, r3, r6, r7, r8⟩ := HRC.out wq hq.1; have re := HEC.out wq hq.2.2; have q1 : rowIs wq g10 66 = true := (by have := rowIs_of hq.2.1; rwa [hartA_size] at this); have q2 : rowOf wq g10 = hartA (F.take 66) := rowOf_of hq.2.1; clear hq; first | (go_simp; done) | (go_simp; with_reducible rfl)
              simp only [Act.put, List.setIfInBounds_toArray, List.set_cons_zero, List.set_cons_succ]
              refine wpAnyH_take (i := 12) (oi := ⟨some 56, _, _, _, _, _⟩) (v := ?_) rfl (by kernel_rfl) (by kernel_rfl) (by kernel_rfl) (fun _ _ _ h => h) (Or.inl ⟨by kernel_rfl, ?_⟩) hH ?_
              rotate_left 1
              · intro wq hq; obtain ⟨r0, r3, r6, r7, r8⟩ := HRC.out wq hq.1; have re := HEC.out wq hq.2.2; have q1 : rowIs wq g10 66 = true := (by have := rowIs_of hq.2.1; rwa [hartA_size] at this); have q2 : rowOf wq g10 = hartA (F.take 66) := rowOf_of hq.2.1; clear hq; first | (go_simp; done) | (go_simp; with_reducible rfl)
              simp only [Act.put, List.setIfInBounds_toArray, List.set_cons_zero, List.set_cons_succ]
              refine wpAnyH_take (i := 13) (oi := ⟨some 57, _, _, _, _, _⟩) (v := ?_) rfl (by kernel_rfl) (by kernel_rfl) (by kernel_rfl) (fun _ _ _ h => h) (Or.inl ⟨by kernel_rfl, ?_⟩) hH ?_
              rotate_left 1
              · intro wq hq; obtain ⟨r0, r3, r6, r7, r8⟩ := HRC.out wq hq.1; have re := HEC.out wq hq.2.2; have q1 : rowIs wq g10 66 = true := (by have := rowIs_of hq.2.1; rwa [hartA_size] at this); have q2 : rowOf wq g10 = hartA (F.take 66) := rowOf_of hq.2.1; clear hq; first | (go_simp; done) | (go_simp; with_reducible rfl)
              simp only [Act.put, List.setIfInBounds_toArray, List.set_cons_zero, List.set_cons_succ]
              refine wpAnyH_take (i := 14) (oi := ⟨some 58, _, _, _, _, _⟩) (v := ?_) rfl (by kernel_rfl) (by kernel_rfl) (by kernel_rfl) (fun _ _ _ h => h) (Or.inl ⟨by kernel_rfl, ?_⟩) hH ?_
              rotate_left 1
              · intro wq hq; obtain ⟨r0, r3, r6, r7, r8⟩ := HRC.out wq hq.1; have re := HEC.out wq hq.2.2; have q1 : rowIs wq g10 66 = true := (by have := rowIs_of hq.2.1; rwa [hartA_size] at this); have q2 : rowOf wq g10 = hartA (F.take 66) := rowOf_of hq.2.1; clear hq; first | (go_simp; done) | (go_simp; with_reducible rfl)
              simp only [Act.put, List.setIfInBounds_toArray, List.set_cons_zero, List.set_cons_succ]
              refine wpAnyH_take (i := 15) (oi := ⟨some 59, _, _, _, _, _⟩) (v := ?_) rfl (by kernel_rfl) (by kernel_rfl) (by kernel_rfl) (fun _ _ _ h => h) (Or.inl ⟨by kernel_rfl, ?_⟩) hH ?_
              rotate_left 1
              · intro wq hq; obtain ⟨r0, r3, r6, r7, r8⟩ := HRC.out wq hq.1; have re := HEC.out wq hq.2.2; have q1 : rowIs wq g10 66 = true := (by have := rowIs_of hq.2.1; rwa [hartA_size] at this); have q2 : rowOf wq g10 = hartA (F.take 66) := rowOf_of hq.2.1; clear hq; first | (go_simp; done) | (go_simp; with_reducible rfl)
              simp only [Act.put, List.setIfInBounds_toArray, List.set_cons_zero, List.set_cons_succ]
              refine wpAnyH_take (i := 16) (oi := ⟨some 60, _, _, _, _, _⟩) (v := ?_) rfl (by kernel_rfl) (by kernel_rfl) (by kernel_rfl) (fun _ _ _ h => h) (Or.inl ⟨by kernel_rfl, ?_⟩) hH ?_
              rotate_left 1
              · intro wq hq; obtain ⟨r0, r3, r6, r7, r8⟩ := HRC.out wq hq.1; have re := HEC.out wq hq.2.2; have q1 : rowIs wq g10 66 = true := (by have := rowIs_of hq.2.1; rwa [hartA_size] at this); have q2 : rowOf wq g10 = hartA (F.take 66) := rowOf_of hq.2.1; clear hq; first | (go_simp; done) | (go_simp; with_reducible rfl)
              simp only [Act.put, List.setIfInBounds_toArray, List.set_cons_zero, List.set_cons_succ]
              refine wpAnyH_take (i := 17) (oi := ⟨some 61, _, _, _, _, _⟩) (v := ?_) rfl (by kernel_rfl) (by kernel_rfl) (by kernel_rfl) (fun _ _ _ h => h) (Or.inl ⟨by kernel_rfl, ?_⟩) hH ?_
              rotate_left 1
              · intro wq hq; obtain ⟨r0, r3, r6, r7, r8⟩ := HRC.out wq hq.1; have re := HEC.out wq hq.2.2; have q1 : rowIs wq g10 66 = true := (by have := rowIs_of hq.2.1; rwa [hartA_size] at this); have q2 : rowOf wq g10 = hartA (F.take 66) := rowOf_of hq.2.1; clear hq; first | (go_simp; done) | (go_simp; with_reducible rfl)
              simp only [Act.put, List.setIfInBounds_toArray, List.set_cons_zero, List.set_cons_succ]
              refine wpAnyH_take (i := 18) (oi := ⟨some 62, _, _, _, _, _⟩) (v := ?_) rfl (by kernel_rfl) (by kernel_rfl) (by kernel_rfl) (fun _ _ _ h => h) (Or.inl ⟨by kernel_rfl, ?_⟩) hH ?_
              rotate_left 1
              · intro wq hq; obtain ⟨r0, r3, r6, r7, r8⟩ := HRC.out wq hq.1; have re := HEC.out wq hq.2.2; have q1 : rowIs wq g10 66 = true := (by have := rowIs_of hq.2.1; rwa [hartA_size] at this); have q2 : rowOf wq g10 = hartA (F.take 66) := rowOf_of hq.2.1; clear hq; first | (go_simp; done) | (go_simp; with_reducible rfl)
              simp only [Act.put, List.setIfInBounds_toArray, List.set_cons_zero, List.set_cons_succ]
              refine wpAnyH_take (i := 19) (oi := ⟨some 63, _, _, _, _, _⟩) (v := ?_) rfl (by kernel_rfl) (by kernel_rfl) (by kernel_rfl) (fun _ _ _ h => h) (Or.inl ⟨by kernel_rfl, ?_⟩) hH ?_
              rotate_left 1
              · intro wq hq; obtain ⟨r0, r3, r6, r7, r8⟩ := HRC.out wq hq.1; have re := HEC.out wq hq.2.2; have q1 : rowIs wq g10 66 = true := (by have := rowIs_of hq.2.1; rwa [hartA_size] at this); have q2 : rowOf wq g10 = hartA (F.take 66) := rowOf_of hq.2.1; clear hq; first | (go_simp; done) | (go_simp; with_reducible rfl)
              simp only [Act.put, List.setIfInBounds_toArray, List.set_cons_zero, List.set_cons_succ]
              refine wpAnyH_take (i := 20) (oi := ⟨some 64, _, _, _, _, _⟩) (v := ?_) rfl (by kernel_rfl) (by kernel_rfl) (by kernel_rfl) (fun _ _ _ h => h) (Or.inl ⟨by kernel_rfl, ?_⟩) hH ?_
              rotate_left 1
              · intro wq hq; obtain ⟨r0, r3, r6, r7, r8⟩ := HRC.out wq hq.1; have re := HEC.out wq hq.2.2; have q1 : rowIs wq g10 66 = true := (by have := rowIs_of hq.2.1; rwa [hartA_size] at this); have q2 : rowOf wq g10 = hartA (F.take 66) := rowOf_of hq.2.1; clear hq; first | (go_simp; done) | (go_simp; with_reducible rfl)
              simp only [Act.put, List.setIfInBounds_toArray, List.set_cons_zero, List.set_cons_succ]
              refine wpAnyH_take (i := 21) (oi := ⟨some 65, _, _, _, _, _⟩) (v := ?_) rfl (by kernel_rfl) (by kernel_rfl) (by kernel_rfl) (fun _ _ _ h => h) (Or.inl ⟨by kernel_rfl, ?_⟩) hH ?_
              rotate_left 1
              · intro wq hq; obtain ⟨r0, r3, r6, r7, r8⟩ := HRC.out wq hq.1; have re := HEC.out wq hq.2.2; have q1 : rowIs wq g10 66 = true := (by have := rowIs_of hq.2.1; rwa [hartA_size] at this); have q2 : rowOf wq g10 = hartA (F.take 66) := rowOf_of hq.2.1; clear hq; first | (go_simp; done) | (go_simp; with_reducible rfl)
              simp only [Act.put, List.setIfInBounds_toArray, List.set_cons_zero, List.set_cons_succ]
              refine wpAnyH_take (i := 22) (oi := ⟨some 66, _, _, _, _, _⟩) (v := ?_) rfl (by kernel_rfl) (by kernel_rfl) (by kernel_rfl) (fun _ _ _ h => h) (Or.inl ⟨by kernel_rfl, ?_⟩) hH ?_
              rotate_left 1
              · intro wq hq; obtain ⟨r0, r3, r6, r7, r8⟩ := HRC.out wq hq.1; have re := HEC.out wq hq.2.2; have q1 : rowIs wq g10 66 = true := (by have := rowIs_of hq.2.1; rwa [hartA_size] at this); have q2 : rowOf wq g10 = hartA (F.take 66) := rowOf_of hq.2.1; clear hq; first | (go_simp; done) | (go_simp; with_reducible rfl)
              simp only [Act.put, List.setIfInBounds_toArray, List.set_cons_zero, List.set_cons_succ]
              refine wpAnyH_take (i := 23) (oi := ⟨some 67, _, _, _, _, _⟩) (v := ?_) rfl (by kernel_rfl) (by kernel_rfl) (by kernel_rfl) (fun _ _ _ h => h) (Or.inl ⟨by kernel_rfl, ?_⟩) hH ?_
              rotate_left 1
              · intro wq hq; obtain ⟨r0, r3, r6, r7, r8⟩ := HRC.out wq hq.1; have re := HEC.out wq hq.2.2; have q1 : rowIs wq g10 66 = true := (by have := rowIs_of hq.2.1; rwa [hartA_size] at this); have q2 : rowOf wq g10 = hartA (F.take 66) := rowOf_of hq.2.1; clear hq; first | (go_simp; done) | (go_simp; with_reducible rfl)
              simp only [Act.put, List.setIfInBounds_toArray, List.set_cons_zero, List.set_cons_succ]
              refine wpAnyH_take (i := 24) (oi := ⟨some 68, _, _, _, _, _⟩) (v := ?_) rfl (by kernel_rfl) (by kernel_rfl) (by kernel_rfl) (fun _ _ _ h => h) (Or.inl ⟨by kernel_rfl, ?_⟩) hH ?_
              rotate_left 1
              · intro wq hq; obtain ⟨r0, r3, r6, r7, r8⟩ := HRC.out wq hq.1; have re := HEC.out wq hq.2.2; have q1 : rowIs wq g10 66 = true := (by have := rowIs_of hq.2.1; rwa [hartA_size] at this); have q2 : rowOf wq g10 = hartA (F.take 66) := rowOf_of hq.2.1; clear hq; first | (go_simp; done) | (go_simp; with_reducible rfl)
              simp only [Act.put, List.setIfInBounds_toArray, List.set_cons_zero, List.set_cons_succ]
              refine wpAnyH_take (i := 25) (oi := ⟨some 69, _, _, _, _, _⟩) (v := ?_) rfl (by kernel_rfl) (by kernel_rfl) (by kernel_rfl) (fun _ _ _ h => h) (Or.inl ⟨by kernel_rfl, ?_⟩) hH ?_
              rotate_left 1
              · intro wq hq; obtain ⟨r0, r3, r6, r7, r8⟩ := HRC.out wq hq.1; have re := HEC.out wq hq.2.2; have q1 : rowIs wq g10 66 = true := (by have := rowIs_of hq.2.1; rwa [hartA_size] at this); have q2 : rowOf wq g10 = hartA (F.take 66) := rowOf_of hq.2.1; clear hq; first | (go_simp; done) | (go_simp; with_reducible rfl)
              simp only [Act.put, List.setIfInBounds_toArray, List.set_cons_zero, List.set_cons_succ]
              refine wpAnyH_take (i := 26) (oi := ⟨some 70, _, _, _, _, _⟩) (v := ?_) rfl (by kernel_rfl) (by kernel_rfl) (by kernel_rfl) (fun _ _ _ h => h) (Or.inl ⟨by kernel_rfl, ?_⟩) hH ?_
              rotate_left 1
              · intro wq hq; obtain ⟨r0, r3, r6, r7, r8⟩ := HRC.out wq hq.1; have re := HEC.out wq hq.2.2; have q1 : rowIs wq g10 66 = true := (by have := rowIs_of hq.2.1; rwa [hartA_size] at this); have q2 : rowOf wq g10 = hartA (F.take 66) := rowOf_of hq.2.1; clear hq; first | (go_simp; done) | (go_simp; with_reducible rfl)
              simp only [Act.put, List.setIfInBounds_toArray, List.set_cons_zero, List.set_cons_succ]
              refine wpAnyH_take (i := 27) (oi := ⟨some 71, _, _, _, _, _⟩) (v := undef) rfl (by kernel_rfl) (by kernel_rfl) (by kernel_rfl) (fun _ _ _ h => h) (Or.inr ⟨by kernel_rfl, rfl⟩) hH ?_
              simp only [Act.put, List.setIfInBounds_toArray, List.set_cons_zero, List.set_cons_succ]
              refine wpAnyH_take (i := 28) (oi := ⟨some 72, _, _, _, _, _⟩) (v := undef) rfl (by kernel_rfl) (by kernel_rfl) (by kernel_rfl) (fun _ _ _ h => h) (Or.inr ⟨by kernel_rfl, rfl⟩) hH ?_
              simp only [Act.put, List.setIfInBounds_toArray, List.set_cons_zero, List.set_cons_succ]
              refine wpAnyH_take (i := 29) (oi := ⟨some 73, _, _, _, _, _⟩) (v := undef) rfl (by kernel_rfl) (by kernel_rfl) (by kernel_rfl) (fun _ _ _ h => h) (Or.inr ⟨by kernel_rfl, rfl⟩) hH ?_
              simp only [Act.put, List.setIfInBounds_toArray, List.set_cons_zero, List.set_cons_succ]
              refine wpAnyH_take (i := 30) (oi := ⟨some 74, _, _, _, _, _⟩) (v := undef) rfl (by kernel_rfl) (by kernel_rfl) (by kernel_rfl) (fun _ _ _ h => h) (Or.inr ⟨by kernel_rfl, rfl⟩) hH ?_
              simp only [Act.put, List.setIfInBounds_toArray, List.set_cons_zero, List.set_cons_succ]
              refine wpAnyH_take (i := 31) (oi := ⟨some 75, _, _, _, _, _⟩) (v := undef) rfl (by kernel_rfl) (by kernel_rfl) (by kernel_rfl) (fun _ _ _ h => h) (Or.inr ⟨by kernel_rfl, rfl⟩) hH ?_
              simp only [Act.put, List.setIfInBounds_toArray, List.set_cons_zero, List.set_cons_succ]
              refine wpAnyH_take (i := 32) (oi := ⟨some 76, _, _, _, _, _⟩) (v := undef) rfl (by kernel_rfl) (by kernel_rfl) (by kernel_rfl) (fun _ _ _ h => h) (Or.inr ⟨by kernel_rfl, rfl⟩) hH ?_
              simp only [Act.put, List.setIfInBounds_toArray, List.set_cons_zero, List.set_cons_succ]
              refine wpAnyH_take (i := 33) (oi := ⟨some 77, _, _, _, _, _⟩) (v := undef) rfl (by kernel_rfl) (by kernel_rfl) (by kernel_rfl) (fun _ _ _ h => h) (Or.inr ⟨by kernel_rfl, rfl⟩) hH ?_
              simp only [Act.put, List.setIfInBounds_toArray, List.set_cons_zero, List.set_cons_succ]
              refine wpAnyH_take (i := 34) (oi := ⟨some 78, _, _, _, _, _⟩) (v := undef) rfl (by kernel_rfl) (by kernel_rfl) (by kernel_rfl) (fun _ _ _ h => h) (Or.inr ⟨by kernel_rfl, rfl⟩) hH ?_
              simp only [Act.put, List.setIfInBounds_toArray, List.set_cons_zero, List.set_cons_succ]
              refine wpAnyH_take (i := 35) (oi := ⟨some 79, _, _, _, _, _⟩) (v := ?_) rfl (by kernel_rfl) (by kernel_rfl) (by kernel_rfl) (fun _ _ _ h => h) (Or.inl ⟨by kernel_rfl, ?_⟩) hH ?_
              rotate_left 1
              · intro wq hq; obtain ⟨r0, r3, r6, r7, r8⟩ := HRC.out wq hq.1; have re := HEC.out wq hq.2.2; have q1 : rowIs wq g10 66 = true := (by have := rowIs_of hq.2.1; rwa [hartA_size] at this); have q2 : rowOf wq g10 = hartA (F.take 66) := rowOf_of hq.2.1; clear hq; first | (go_simp; done) | (go_simp; with_reducible rfl)
              simp only [Act.put, List.setIfInBounds_toArray, List.set_cons_zero, List.set_cons_succ]
              refine wpAnyH_take (i := 36) (oi := ⟨some 80, _, _, _, _, _⟩) (v := ?_) rfl (by kernel_rfl) (by kernel_rfl) (by kernel_rfl) (fun _ _ _ h => h) (Or.inl ⟨by kernel_rfl, ?_⟩) hH ?_
              rotate_left 1
              · intro wq hq; obtain ⟨r0, r3, r6, r7, r8⟩ := HRC.out wq hq.1; have re := HEC.out wq hq.2.2; have q1 : rowIs wq g10 66 = true := (by have := rowIs_of hq.2.1; rwa [hartA_size] at this); have q2 : rowOf wq g10 = hartA (F.take 66) := rowOf_of hq.2.1; clear hq; first | (go_simp; done) | (go_simp; with_reducible rfl)
              simp only [Act.put, List.setIfInBounds_toArray, List.set_cons_zero, List.set_cons_succ]
              refine wpAnyH_take (i := 37) (oi := ⟨some 81, _, _, _, _, _⟩) (v := ?_) rfl (by kernel_rfl) (by kernel_rfl) (by kernel_rfl) (fun _ _ _ h => h) (Or.inl ⟨by kernel_rfl, ?_⟩) hH ?_
              rotate_left 1
              · intro wq hq; obtain ⟨r0, r3, r6, r7, r8⟩ := HRC.out wq hq.1; have re := HEC.out wq hq.2.2; have q1 : rowIs wq g10 66 = true := (by have := rowIs_of hq.2.1; rwa [hartA_size] at this); have q2 : rowOf wq g10 = hartA (F.take 66) := rowOf_of hq.2.1; clear hq; first | (go_simp; done) | (go_simp; with_reducible rfl)
              simp only [Act.put, List.setIfInBounds_toArray, List.set_cons_zero, List.set_cons_succ]
              refine wpAnyH_take (i := 38) (oi := ⟨some 82, _, _, _, _, _⟩) (v := ?_) rfl (by kernel_rfl) (by kernel_rfl) (by kernel_rfl) (fun _ _ _ h => h) (Or.inl ⟨by kernel_rfl, ?_⟩) hH ?_
              rotate_left 1
              · intro wq hq; obtain ⟨r0, r3, r6, r7, r8⟩ := HRC.out wq hq.1; have re := HEC.out wq hq.2.2; have q1 : rowIs wq g10 66 = true := (by have := rowIs_of hq.2.1; rwa [hartA_size] at this); have q2 : rowOf wq g10 = hartA (F.take 66) := rowOf_of hq.2.1; clear hq; first | (go_simp; done) | (go_simp; with_reducible rfl)
              simp only [Act.put, List.setIfInBounds_toArray, List.set_cons_zero, List.set_cons_succ]
              refine wpAnyH_take (i := 39) (oi := ⟨some 83, _, _, _, _, _⟩) (v := ?_) rfl (by kernel_rfl) (by kernel_rfl) (by kernel_rfl) (fun _ _ _ h => h) (Or.inl ⟨by kernel_rfl, ?_⟩) hH ?_
              rotate_left 1
              · intro wq hq; obtain ⟨r0, r3, r6, r7, r8⟩ := HRC.out wq hq.1; have re := HEC.out wq hq.2.2; have q1 : rowIs wq g10 66 = true := (by have := rowIs_of hq.2.1; rwa [hartA_size] at this); have q2 : rowOf wq g10 = hartA (F.take 66) := rowOf_of hq.2.1; clear hq; first | (go_simp; done) | (go_simp; with_reducible rfl)
              simp only [Act.put, List.setIfInBounds_toArray, List.set_cons_zero, List.set_cons_succ]
              refine wpAnyH_take (i := 40) (oi := ⟨some 84, _, _, _, _, _⟩) (v := ?_) rfl (by kernel_rfl) (by kernel_rfl) (by kernel_rfl) (fun _ _ _ h => h) (Or.inl ⟨by kernel_rfl, ?_⟩) hH ?_
              rotate_left 1
              · intro wq hq; obtain ⟨r0, r3, r6, r7, r8⟩ := HRC.out wq hq.1; have re := HEC.out wq hq.2.2; have q1 : rowIs wq g10 66 = true := (by have := rowIs_of hq.2.1; rwa [hartA_size] at this); have q2 : rowOf wq g10 = hartA (F.take 66) := rowOf_of hq.2.1; clear hq; first | (go_simp; done) | (go_simp; with_reducible rfl)
              simp only [Act.put, List.setIfInBounds_toArray, List.set_cons_zero, List.set_cons_succ]
              refine wpAnyH_take (i := 41) (oi := ⟨some 85, _, _, _, _, _⟩) (v := ?_) rfl (by kernel_rfl) (by kernel_rfl) (by kernel_rfl) (fun _ _ _ h => h) (Or.inl ⟨by kernel_rfl, ?_⟩) hH ?_
              rotate_left 1
              · intro wq hq; obtain ⟨r0, r3, r6, r7, r8⟩ := HRC.out wq hq.1; have re := HEC.out wq hq.2.2; have q1 : rowIs wq g10 66 = true := (by have := rowIs_of hq.2.1; rwa [hartA_size] at this); have q2 : rowOf wq g10 = hartA (F.take 66) := rowOf_of hq.2.1; clear hq; first | (go_simp; done) | (go_simp; with_reducible rfl)
              simp only [Act.put, List.setIfInBounds_toArray, List.set_cons_zero, List.set_cons_succ]
              refine wpAnyH_take (i := 42) (oi := ⟨some 86, _, _, _, _, _⟩) (v := ?_) rfl (by kernel_rfl) (by kernel_rfl) (by kernel_rfl) (fun _ _ _ h => h) (Or.inl ⟨by kernel_rfl, ?_⟩) hH ?_
              rotate_left 1
              · intro wq hq; obtain ⟨r0, r3, r6, r7, r8⟩ := HRC.out wq hq.1; have re := HEC.out wq hq.2.2; have q1 : rowIs wq g10 66 = true := (by have := rowIs_of hq.2.1; rwa [hartA_size] at this); have q2 : rowOf wq g10 = hartA (F.take 66) := rowOf_of hq.2.1; clear hq; first | (go_simp; done) | (go_simp; with_reducible rfl)
              simp only [Act.put, List.setIfInBounds_toArray, List.set_cons_zero, List.set_cons_succ]
              refine wpAnyH_take (i := 43) (oi := ⟨some 87, _, _, _, _, _⟩) (v := ?_) rfl (by kernel_rfl) (by kernel_rfl) (by kernel_rfl) (fun _ _ _ h => h) (Or.inl ⟨by kernel_rfl, ?_⟩) hH ?_
              rotate_left 1
              · intro wq hq; obtain ⟨r0, r3, r6, r7, r8⟩ := HRC.out wq hq.1; have re := HEC.out wq hq.2.2; have q1 : rowIs wq g10 66 = true := (by have := rowIs_of hq.2.1; rwa [hartA_size] at this); have q2 : rowOf wq g10 = hartA (F.take 66) := rowOf_of hq.2.1; clear hq; first | (go_simp; done) | (go_simp; with_reducible rfl)
              simp only [Act.put, List.setIfInBounds_toArray, List.set_cons_zero, List.set_cons_succ]
              refine wpAnyH_take (i := 44) (oi := ⟨some 88, _, _, _, _, _⟩) (v := ?_) rfl (by kernel_rfl) (by kernel_rfl) (by kernel_rfl) (fun _ _ _ h => h) (Or.inl ⟨by kernel_rfl, ?_⟩) hH ?_
              rotate_left 1
              · intro wq hq; obtain ⟨r0, r3, r6, r7, r8⟩ := HRC.out wq hq.1; have re := HEC.out wq hq.2.2; have q1 : rowIs wq g10 66 = true := (by have := rowIs_of hq.2.1; rwa [hartA_size] at this); have q2 : rowOf wq g10 = hartA (F.take 66) := rowOf_of hq.2.1; clear hq; first | (go_simp; done) | (go_simp; with_reducible rfl)
              simp only [Act.put, List.setIfInBounds_toArray, List.set_cons_zero, List.set_cons_succ]
              refine wpAnyH_take (i := 45) (oi := ⟨some 89, _, _, _, _, _⟩) (v := ?_) rfl (by kernel_rfl) (by kernel_rfl) (by kernel_rfl) (fun _ _ _ h => h) (Or.inl ⟨by kernel_rfl, ?_⟩) hH ?_
              rotate_left 1
              · intro wq hq; obtain ⟨r0, r3, r6, r7, r8⟩ := HRC.out wq hq.1; have re := HEC.out wq hq.2.2; have q1 : rowIs wq g10 66 = true := (by have := rowIs_of hq.2.1; rwa [hartA_size] at this); have q2 : rowOf wq g10 = hartA (F.take 66) := rowOf_of hq.2.1; clear hq; first | (go_simp; done) | (go_simp; with_reducible rfl)
              simp only [Act.put, List.setIfInBounds_toArray, List.set_cons_zero, List.set_cons_succ]
              refine wpAnyH_take (i := 46) (oi := ⟨some 90, _, _, _, _, _⟩) (v := ?_) rfl (by kernel_rfl) (by kernel_rfl) (by kernel_rfl) (fun _ _ _ h => h) (Or.inl ⟨by kernel_rfl, ?_⟩) hH ?_
              rotate_left 1
              · intro wq hq; obtain ⟨r0, r3, r6, r7, r8⟩ := HRC.out wq hq.1; have re := HEC.out wq hq.2.2; have q1 : rowIs wq g10 66 = true := (by have := rowIs_of hq.2.1; rwa [hartA_size] at this); have q2 : rowOf wq g10 = hartA (F.take 66) := rowOf_of hq.2.1; clear hq; first | (go_simp; done) | (go_simp; with_reducible rfl)
              simp only [Act.put, List.setIfInBounds_toArray, List.set_cons_zero, List.set_cons_succ]
              refine wpAnyH_done (by kernel_rfl) ?_ _
              clear hH
              go_wp2_with fail
              refine wp_region_held_drew (S := fun wq => wq.heap[g9]? = some (.cells (recA (F.drop 66)) 30 (0, 0)) ∧ wq.heap[g10]? = some (.cells (hartA (F.take 66)) 43 (0, 0))) (by kernel_rfl) ⟨HREC9.out, HHA9.out⟩ (fun hH => ?_)
              refine wpAnyH_take (i := 0) (oi := ⟨some 91, _, _, _, _, _⟩) (v := ?_) rfl (by kernel_rfl) (by kernel_rfl) (by kernel_rfl) (fun _ _ _ h => h) (Or.inl ⟨by kernel_rfl, ?_⟩) hH ?_
              rotate_left 1
              · intro wq hq; obtain ⟨r0, r3, r6, r7, r8⟩ := HRC.out wq hq.1; clear hq; first | (go_simp; done) | (go_simp; with_reducible rfl)
              simp only [Act.put, List.setIfInBounds_toArray, List.set_cons_zero, List.set_cons_succ]
              refine wpAnyH_take (i := 1) (oi := ⟨some 92, _, _, _, _, _⟩) (v := ?_) rfl (by kernel_rfl) (by kernel_rfl) (by kernel_rfl) (fun _ _ _ h => h) (Or.inl ⟨by kernel_rfl, ?_⟩) hH ?_
              rotate_left 1
              · intro wq hq; obtain ⟨r0, r3, r6, r7, r8⟩ := HRC.out wq hq.1; clear hq; first | (go_simp; done) | (go_simp; with_reducible rfl)
              simp only [Act.put, List.setIfInBounds_toArray, List.set_cons_zero, List.set_cons_succ]
              refine wpAnyH_take (i := 2) (oi := ⟨some 93, _, _, _, _, _⟩) (v := ?_) rfl (by kernel_rfl) (by kernel_rfl) (by kernel_rfl) (fun _ _ _ h => h) (Or.inl ⟨by kernel_rfl, ?_⟩) hH ?_
              rotate_left 1
              · intro wq hq; obtain ⟨r0, r3, r6, r7, r8⟩ := HRC.out wq hq.1; clear hq; first | (go_simp; done) | (go_simp; with_reducible rfl)
              simp only [Act.put, List.setIfInBounds_toArray, List.set_cons_zero, List.set_cons_succ]
              refine wpAnyH_take (i := 3) (oi := ⟨some 94, _, _, _, _, _⟩) (v := ?_) rfl (by kernel_rfl) (by kernel_rfl) (by kernel_rfl) (fun _ _ _ h => h) (Or.inl ⟨by kernel_rfl, ?_⟩) hH ?_
              rotate_left 1
              · intro wq hq; obtain ⟨r0, r3, r6, r7, r8⟩ := HRC.out wq hq.1; clear hq; first | (go_simp; done) | (go_simp; with_reducible rfl)
              simp only [Act.put, List.setIfInBounds_toArray, List.set_cons_zero, List.set_cons_succ]
              refine wpAnyH_take (i := 4) (oi := ⟨some 95, _, _, _, _, _⟩) (v := undef) rfl (by kernel_rfl) (by kernel_rfl) (by kernel_rfl) (fun _ _ _ h => h) (Or.inr ⟨by kernel_rfl, rfl⟩) hH ?_
              simp only [Act.put, List.setIfInBounds_toArray, List.set_cons_zero, List.set_cons_succ]
              refine wpAnyH_take (i := 5) (oi := ⟨some 96, _, _, _, _, _⟩) (v := undef) rfl (by kernel_rfl) (by kernel_rfl) (by kernel_rfl) (fun _ _ _ h => h) (Or.inr ⟨by kernel_rfl, rfl⟩) hH ?_
              simp only [Act.put, List.setIfInBounds_toArray, List.set_cons_zero, List.set_cons_succ]
              refine wpAnyH_take (i := 6) (oi := ⟨some 97, _, _, _, _, _⟩) (v := undef) rfl (by kernel_rfl) (by kernel_rfl) (by kernel_rfl) (fun _ _ _ h => h) (Or.inr ⟨by kernel_rfl, rfl⟩) hH ?_
              simp only [Act.put, List.setIfInBounds_toArray, List.set_cons_zero, List.set_cons_succ]
              refine wpAnyH_take (i := 7) (oi := ⟨some 98, _, _, _, _, _⟩) (v := undef) rfl (by kernel_rfl) (by kernel_rfl) (by kernel_rfl) (fun _ _ _ h => h) (Or.inr ⟨by kernel_rfl, rfl⟩) hH ?_
              simp only [Act.put, List.setIfInBounds_toArray, List.set_cons_zero, List.set_cons_succ]
              refine wpAnyH_take (i := 8) (oi := ⟨some 99, _, _, _, _, _⟩) (v := undef) rfl (by kernel_rfl) (by kernel_rfl) (by kernel_rfl) (fun _ _ _ h => h) (Or.inr ⟨by kernel_rfl, rfl⟩) hH ?_
              simp only [Act.put, List.setIfInBounds_toArray, List.set_cons_zero, List.set_cons_succ]
              refine wpAnyH_take (i := 9) (oi := ⟨some 100, _, _, _, _, _⟩) (v := undef) rfl (by kernel_rfl) (by kernel_rfl) (by kernel_rfl) (fun _ _ _ h => h) (Or.inr ⟨by kernel_rfl, rfl⟩) hH ?_
              simp only [Act.put, List.setIfInBounds_toArray, List.set_cons_zero, List.set_cons_succ]
              refine wpAnyH_take (i := 10) (oi := ⟨some 101, _, _, _, _, _⟩) (v := undef) rfl (by kernel_rfl) (by kernel_rfl) (by kernel_rfl) (fun _ _ _ h => h) (Or.inr ⟨by kernel_rfl, rfl⟩) hH ?_
              simp only [Act.put, List.setIfInBounds_toArray, List.set_cons_zero, List.set_cons_succ]
              refine wpAnyH_take (i := 11) (oi := ⟨some 102, _, _, _, _, _⟩) (v := undef) rfl (by kernel_rfl) (by kernel_rfl) (by kernel_rfl) (fun _ _ _ h => h) (Or.inr ⟨by kernel_rfl, rfl⟩) hH ?_
              simp only [Act.put, List.setIfInBounds_toArray, List.set_cons_zero, List.set_cons_succ]
              refine wpAnyH_take (i := 12) (oi := ⟨some 103, _, _, _, _, _⟩) (v := ?_) rfl (by kernel_rfl) (by kernel_rfl) (by kernel_rfl) (fun _ _ _ h => h) (Or.inl ⟨by kernel_rfl, ?_⟩) hH ?_
              rotate_left 1
              · intro wq hq; obtain ⟨r0, r3, r6, r7, r8⟩ := HRC.out wq hq.1; clear hq; first | (go_simp; done) | (go_simp; with_reducible rfl)
              simp only [Act.put, List.setIfInBounds_toArray, List.set_cons_zero, List.set_cons_succ]
              refine wpAnyH_done (by kernel_rfl) ?_ _
              clear hH
              have HKD := Lib.hid (HK9.out.on (Below.refl _ _).drew)
              clear HREC9 HHA9 HK9 HRC HEC HSAY HRNG HE HEB HEV
              go_wp2_with fail
              exact ⟨⟨k + 1, S2, _, _, by omega, by omega, by rw [Int.natCast_succ], HKD.out⟩, by simp [intOf]; omega⟩
            · have hr1 : (0 : Int) < rd := by omega
              have HHY := Lib.hid (HHX.out (by omega))
              have p1 : ¬ ((rd : Int) < 0) := by omega
              have p2 : ¬ ((31 : Int) < rd) := by omega
              have p3 : ¬ ((rd : Int) = 0) := by omega
              have p4 : (rd : Int) < 32 := by omega
              have p5 : (0 : Int) < rd := hr1
              have b4 : decide ((0 : Int) < rd) = true := decide_eq_true p5
              have p6 : 0 < rd := by omega
              have b5 : decide (0 < rd) = true := decide_eq_true p6
              have b1 : decide ((rd : Int) < 0) = false := decide_eq_false p1
              have b2 : decide ((31 : Int) < rd) = false := decide_eq_false p2
              have b3 : ((rd : Int) == 0) = false := beq_eq_false_iff_ne.2 p3
              clear HV0 HHX
              refine wp_region_held_drew (S := fun wq => wq.heap[g9]? = some (.cells (recA (F.drop 66)) 30 (0, 0)) ∧ wq.heap[g10]? = some (.cells (hartA (F.take 66)) 43 (0, 0)) ∧ wq.rangeAt eb (eo + k * 10) (cksV envC (evs k))) (by kernel_rfl) ⟨HREC8.out, HHA.out, HRNG.out _ HK8.out.below.drew⟩ (fun hH => ?_)
              refine wpAnyH_take (i := 0) (oi := ⟨some 44, _, _, _, _, _⟩) (v := ?_) rfl (by kernel_rfl) (by kernel_rfl) (by kernel_rfl) (fun _ _ _ h => h) (Or.inl ⟨by kernel_rfl, ?_⟩) hH ?_
              rotate_left 1
              · intro wq hq; obtain ⟨r0, r3, r6, r7, r8⟩ := HRC.out wq hq.1; have re := HEC.out wq hq.2.2; have q1 : rowIs wq g10 66 = true := (by have := rowIs_of hq.2.1; rwa [hartA_size] at this); have q2 : rowOf wq g10 = hartA (F.take 66) := rowOf_of hq.2.1; clear hq; first | (go_simp; done) | (go_simp; with_reducible rfl)
              simp only [Act.put, List.setIfInBounds_toArray, List.set_cons_zero, List.set_cons_succ]
              refine wpAnyH_ready (rs := [1]) (by kernel_rfl) (by simp) (AllReadyH.cons (o := ⟨some 45, _, _, _, _, _⟩) rfl (fun K hK => ?_) AllReadyH.nil)
              go_simp
              refine (HSAY.out _).mono ?_
              rintro e w9 ⟨rfl, hb⟩
              have HK9 := Lib.hid ((HK8.out.on (Below.refl _ _).drew).on hb)
              have HREC9 : Hid (w9.heap[g9]? = some (.cells (recA (F.drop 66)) 30 (0, 0))) := (hb.block _ (blk_lt HREC8.out)).trans HREC8.out
              have HHA9 : Hid (w9.heap[g10]? = some (.cells (hartA (F.take 66)) 43 (0, 0))) := (hb.block _ (blk_lt HHA.out)).trans HHA.out
              clear hb HK8 HREC8 HHA
              go_wp2_with fail
              refine hK.out _ _ ⟨HREC9.out, HHA9.out, HRNG.out _ HK9.out.below⟩ (fun hH => ?_)
              clear hK K
              try simp only [Act.put, List.setIfInBounds_toArray, List.set_cons_zero, List.set_cons_succ]
              refine wpAnyH_take (i := 2) (oi := ⟨some 46, _, _, _, _, _⟩) (v := ?_) rfl (by kernel_rfl) (by kernel_rfl) (by kernel_rfl) (fun _ _ _ h => h) (Or.inl ⟨by kernel_rfl, ?_⟩) hH ?_
              rotate_left 1
              · intro wq hq; obtain ⟨r0, r3, r6, r7, r8⟩ := HRC.out wq hq.1; have re := HEC.out wq hq.2.2; have q1 : rowIs wq g10 66 = true := (by have := rowIs_of hq.2.1; rwa [hartA_size] at this); have q2 : rowOf wq g10 = hartA (F.take 66) := rowOf_of hq.2.1; clear hq; first | (go_simp; done) | (go_simp; with_reducible rfl)
              simp only [Act.put, List.setIfInBounds_toArray, List.set_cons_zero, List.set_cons_succ]
              refine wpAnyH_take (i := 3) (oi := ⟨some 47, _, _, _, _, _⟩) (v := ?_) rfl (by kernel_rfl) (by kernel_rfl) (by kernel_rfl) (fun _ _ _ h => h) (Or.inl ⟨by kernel_rfl, ?_⟩) hH ?_
              rotate_left 1
              · intro wq hq; obtain ⟨r0, r3, r6, r7, r8⟩ := HRC.out wq hq.1; have re := HEC.out wq hq.2.2; have q1 : rowIs wq g10 66 = true := (by have := rowIs_of hq.2.1; rwa [hartA_size] at this); have q2 : rowOf wq g10 = hartA (F.take 66) := rowOf_of hq.2.1; clear hq; first | (go_simp; done) | (go_simp; with_reducible rfl)
              simp only [Act.put, List.setIfInBounds_toArray, List.set_cons_zero, List.set_cons_succ]
              refine wpAnyH_take (i := 4) (oi := ⟨some 48, _, _, _, _, _⟩) (v := ?_) rfl (by kernel_rfl) (by kernel_rfl) (by kernel_rfl) (fun _ _ _ h => h) (Or.inl ⟨by kernel_rfl, ?_⟩) hH ?_
              rotate_left 1
              · intro wq hq; obtain ⟨r0, r3, r6, r7, r8⟩ := HRC.out wq hq.1; have re := HEC.out wq hq.2.2; have q1 : rowIs wq g10 66 = true := (by have := rowIs_of hq.2.1; rwa [hartA_size] at this); have q2 : rowOf wq g10 = hartA (F.take 66) := rowOf_of hq.2.1; clear hq; first | (go_simp; done) | (go_simp; with_reducible rfl)
              simp only [Act.put, List.setIfInBounds_toArray, List.set_cons_zero, List.set_cons_succ]
              refine wpAnyH_take (i := 5) (oi := ⟨some 49, _, _, _, _, _⟩) (v := ?_) rfl (by kernel_rfl) (by kernel_rfl) (by kernel_rfl) (fun _ _ _ h => h) (Or.inl ⟨by kernel_rfl, ?_⟩) hH ?_
              rotate_left 1
              · intro wq hq; obtain ⟨r0, r3, r6, r7, r8⟩ := HRC.out wq hq.1; have re := HEC.out wq hq.2.2; have q1 : rowIs wq g10 66 = true := (by have := rowIs_of hq.2.1; rwa [hartA_size] at this); have q2 : rowOf wq g10 = hartA (F.take 66) := rowOf_of hq.2.1; clear hq; first | (go_simp; done) | (go_simp; with_reducible rfl)
              simp only [Act.put, List.setIfInBounds_toArray, List.set_cons_zero, List.set_cons_succ]
              refine wpAnyH_take (i := 6) (oi := ⟨some 50, _, _, _, _, _⟩) (v := ?_) rfl (by kernel_rfl) (by kernel_rfl) (by kernel_rfl) (fun _ _ _ h => h) (Or.inl ⟨by kernel_rfl, ?_⟩) hH ?_
              rotate_left 1
              · intro wq hq; obtain ⟨r0, r3, r6, r7, r8⟩ := HRC.out wq hq.1; have re := HEC.out wq hq.2.2; have q1 : rowIs wq g10 66 = true := (by have := rowIs_of hq.2.1; rwa [hartA_size] at this); have q2 : rowOf wq g10 = hartA (F.take 66) := rowOf_of hq.2.1; clear hq; first | (go_simp; done) | (go_simp; with_reducible rfl)
              simp only [Act.put, List.setIfInBounds_toArray, List.set_cons_zero, List.set_cons_succ]
              refine wpAnyH_take (i := 7) (oi := ⟨some 51, _, _, _, _, _⟩) (v := ?_) rfl (by kernel_rfl) (by kernel_rfl) (by kernel_rfl) (fun _ _ _ h => h) (Or.inl ⟨by kernel_rfl, ?_⟩) hH ?_
              rotate_left 1
              · intro wq hq; obtain ⟨r0, r3, r6, r7, r8⟩ := HRC.out wq hq.1; have re := HEC.out wq hq.2.2; have q1 : rowIs wq g10 66 = true := (by have := rowIs_of hq.2.1; rwa [hartA_size] at this); have q2 : rowOf wq g10 = hartA (F.take 66) := rowOf_of hq.2.1; clear hq; first | (go_simp; done) | (go_simp; with_reducible rfl)
              simp only [Act.put, List.setIfInBounds_toArray, List.set_cons_zero, List.set_cons_succ]
              refine wpAnyH_take (i := 8) (oi := ⟨some 52, _, _, _, _, _⟩) (v := ?_) rfl (by kernel_rfl) (by kernel_rfl) (by kernel_rfl) (fun _ _ _ h => h) (Or.inl ⟨by kernel_rfl, ?_⟩) hH ?_
              rotate_left 1
              · intro wq hq; obtain ⟨r0, r3, r6, r7, r8⟩ := HRC.out wq hq.1; have re := HEC.out wq hq.2.2; have q1 : rowIs wq g10 66 = true := (by have := rowIs_of hq.2.1; rwa [hartA_size] at this); have q2 : rowOf wq g10 = hartA (F.take 66) := rowOf_of hq.2.1; clear hq; first | (go_simp; done) | (go_simp; with_reducible rfl)
              simp only [Act.put, List.setIfInBounds_toArray, List.set_cons_zero, List.set_cons_succ]
              refine wpAnyH_take (i := 9) (oi := ⟨some 53, _, _, _, _, _⟩) (v := ?_) rfl (by kernel_rfl) (by kernel_rfl) (by kernel_rfl) (fun _ _ _ h => h) (Or.inl ⟨by kernel_rfl, ?_⟩) hH ?_
              rotate_left 1
              · intro wq hq; obtain ⟨r0, r3, r6, r7, r8⟩ := HRC.out wq hq.1; have re := HEC.out wq hq.2.2; have q1 : rowIs wq g10 66 = true := (by have := rowIs_of hq.2.1; rwa [hartA_size] at this); have q2 : rowOf wq g10 = hartA (F.take 66) := rowOf_of hq.2.1; clear hq; first | (go_simp; done) | (go_simp; with_reducible rfl)
              simp only [Act.put, List.setIfInBounds_toArray, List.set_cons_zero, List.set_cons_succ]
              refine wpAnyH_take (i := 10) (oi := ⟨some 54, _, _, _, _, _⟩) (v := ?_) rfl (by kernel_rfl) (by kernel_rfl) (by kernel_rfl) (fun _ _ _ h => h) (Or.inl ⟨by kernel_rfl, ?_⟩) hH ?_
              rotate_left 1
              · intro wq hq; obtain ⟨r0, r3, r6, r7, r8⟩ := HRC.out wq hq.1; have re := HEC.out wq hq.2.2; have q1 : rowIs wq g10 66 = true := (by have := rowIs_of hq.2.1; rwa [hartA_size] at this); have q2 : rowOf wq g10 = hartA (F.take 66) := rowOf_of hq.2.1; clear hq; first | (go_simp; done) | (go_simp; with_reducible rfl)
              simp only [Act.put, List.setIfInBounds_toArray, List.set_cons_zero, List.set_cons_succ]
              refine wpAnyH_take (i := 11) (oi := ⟨some 55, _, _, _, _, _⟩) (v := ?_) rfl (by kernel_rfl) (by kernel_rfl) (by kernel_rfl) (fun _ _ _ h => h) (Or.inl ⟨by kernel_rfl, ?_⟩) hH ?_
              rotate_left 1
              · intro wq hq; obtain ⟨r0, r3, r6, r7, r8⟩ := HRC.out wq hq.1; have re := HEC.out wq hq.2.2; have q1 : rowIs wq g10 66 = true := (by have := rowIs_of hq.2.1; rwa [hartA_size] at this); have q2 : rowOf wq g10 = hartA (F.take 66) := rowOf_of hq.2.1; clear hq; first | (go_simp; done) | (go_simp; with_reducible rfl)
              simp only [Act.put, List.setIfInBounds_toArray, List.set_cons_zero, List.set_cons_succ]
              refine wpAnyH_take (i := 12) (oi := ⟨some 56, _, _, _, _, _⟩) (v := ?_) rfl (by kernel_rfl) (by kernel_rfl) (by kernel_rfl) (fun _ _ _ h => h) (Or.inl ⟨by kernel_rfl, ?_⟩) hH ?_
              rotate_left 1
              · intro wq hq; obtain ⟨r0, r3, r6, r7, r8⟩ := HRC.out wq hq.1; have re := HEC.out wq hq.2.2; have q1 : rowIs wq g10 66 = true := (by have := rowIs_of hq.2.1; rwa [hartA_size] at this); have q2 : rowOf wq g10 = hartA (F.take 66) := rowOf_of hq.2.1; clear hq; first | (go_simp; done) | (go_simp; with_reducible rfl)
              simp only [Act.put, List.setIfInBounds_toArray, List.set_cons_zero, List.set_cons_succ]
              refine wpAnyH_take (i := 13) (oi := ⟨some 57, _, _, _, _, _⟩) (v := ?_) rfl (by kernel_rfl) (by kernel_rfl) (by kernel_rfl) (fun _ _ _ h => h) (Or.inl ⟨by kernel_rfl, ?_⟩) hH ?_
              rotate_left 1
              · intro wq hq; obtain ⟨r0, r3, r6, r7, r8⟩ := HRC.out wq hq.1; have re := HEC.out wq hq.2.2; have q1 : rowIs wq g10 66 = true := (by have := rowIs_of hq.2.1; rwa [hartA_size] at this); have q2 : rowOf wq g10 = hartA (F.take 66) := rowOf_of hq.2.1; clear hq; first | (go_simp; done) | (go_simp; with_reducible rfl)
              simp only [Act.put, List.setIfInBounds_toArray, List.set_cons_zero, List.set_cons_succ]
              refine wpAnyH_take (i := 14) (oi := ⟨some 58, _, _, _, _, _⟩) (v := ?_) rfl (by kernel_rfl) (by kernel_rfl) (by kernel_rfl) (fun _ _ _ h => h) (Or.inl ⟨by kernel_rfl, ?_⟩) hH ?_
              rotate_left 1
              · intro wq hq; obtain ⟨r0, r3, r6, r7, r8⟩ := HRC.out wq hq.1; have re := HEC.out wq hq.2.2; have q1 : rowIs wq g10 66 = true := (by have := rowIs_of hq.2.1; rwa [hartA_size] at this); have q2 : rowOf wq g10 = hartA (F.take 66) := rowOf_of hq.2.1; clear hq; first | (go_simp; done) | (go_simp; with_reducible rfl)
              simp only [Act.put, List.setIfInBounds_toArray, List.set_cons_zero, List.set_cons_succ]
              refine wpAnyH_take (i := 15) (oi := ⟨some 59, _, _, _, _, _⟩) (v := ?_) rfl (by kernel_rfl) (by kernel_rfl) (by kernel_rfl) (fun _ _ _ h => h) (Or.inl ⟨by kernel_rfl, ?_⟩) hH ?_
              rotate_left 1
              · intro wq hq; obtain ⟨r0, r3, r6, r7, r8⟩ := HRC.out wq hq.1; have re := HEC.out wq hq.2.2; have q1 : rowIs wq g10 66 = true := (by have := rowIs_of hq.2.1; rwa [hartA_size] at this); have q2 : rowOf wq g10 = hartA (F.take 66) := rowOf_of hq.2.1; clear hq; first | (go_simp; done) | (go_simp; with_reducible rfl)
              simp only [Act.put, List.setIfInBounds_toArray, List.set_cons_zero, List.set_cons_succ]
              refine wpAnyH_take (i := 16) (oi := ⟨some 60, _, _, _, _, _⟩) (v := ?_) rfl (by kernel_rfl) (by kernel_rfl) (by kernel_rfl) (fun _ _ _ h => h) (Or.inl ⟨by kernel_rfl, ?_⟩) hH ?_
              rotate_left 1
              · intro wq hq; obtain ⟨r0, r3, r6, r7, r8⟩ := HRC.out wq hq.1; have re := HEC.out wq hq.2.2; have q1 : rowIs wq g10 66 = true := (by have := rowIs_of hq.2.1; rwa [hartA_size] at this); have q2 : rowOf wq g10 = hartA (F.take 66) := rowOf_of hq.2.1; clear hq; first | (go_simp; done) | (go_simp; with_reducible rfl)
              simp only [Act.put, List.setIfInBounds_toArray, List.set_cons_zero, List.set_cons_succ]
              refine wpAnyH_take (i := 17) (oi := ⟨some 61, _, _, _, _, _⟩) (v := ?_) rfl (by kernel_rfl) (by kernel_rfl) (by kernel_rfl) (fun _ _ _ h => h) (Or.inl ⟨by kernel_rfl, ?_⟩) hH ?_
              rotate_left 1
              · intro wq hq; obtain ⟨r0, r3, r6, r7, r8⟩ := HRC.out wq hq.1; have re := HEC.out wq hq.2.2; have q1 : rowIs wq g10 66 = true := (by have := rowIs_of hq.2.1; rwa [hartA_size] at this); have q2 : rowOf wq g10 = hartA (F.take 66) := rowOf_of hq.2.1; clear hq; first | (go_simp; done) | (go_simp; with_reducible rfl)
              simp only [Act.put, List.setIfInBounds_toArray, List.set_cons_zero, List.set_cons_succ]
              refine wpAnyH_take (i := 18) (oi := ⟨some 62, _, _, _, _, _⟩) (v := undef) rfl (by kernel_rfl) (by kernel_rfl) (by kernel_rfl) (fun _ _ _ h => h) (Or.inr ⟨by kernel_rfl, rfl⟩) hH ?_
              simp only [Act.put, List.setIfInBounds_toArray, List.set_cons_zero, List.set_cons_succ]
              refine wpAnyH_take (i := 19) (oi := ⟨some 63, _, _, _, _, _⟩) (v := undef) rfl (by kernel_rfl) (by kernel_rfl) (by kernel_rfl) (fun _ _ _ h => h) (Or.inr ⟨by kernel_rfl, rfl⟩) hH ?_
              simp only [Act.put, List.setIfInBounds_toArray, List.set_cons_zero, List.set_cons_succ]
              refine wpAnyH_take (i := 20) (oi := ⟨some 64, _, _, _, _, _⟩) (v := undef) rfl (by kernel_rfl) (by kernel_rfl) (by kernel_rfl) (fun _ _ _ h => h) (Or.inr ⟨by kernel_rfl, rfl⟩) hH ?_
              simp only [Act.put, List.setIfInBounds_toArray, List.set_cons_zero, List.set_cons_succ]
              refine wpAnyH_take (i := 21) (oi := ⟨some 65, _, _, _, _, _⟩) (v := ?_) rfl (by kernel_rfl) (by kernel_rfl) (by kernel_rfl) (fun _ _ _ h => h) (Or.inl ⟨by kernel_rfl, ?_⟩) hH ?_
              rotate_left 1
              · intro wq hq; obtain ⟨r0, r3, r6, r7, r8⟩ := HRC.out wq hq.1; have re := HEC.out wq hq.2.2; have q1 : rowIs wq g10 66 = true := (by have := rowIs_of hq.2.1; rwa [hartA_size] at this); have q2 : rowOf wq g10 = hartA (F.take 66) := rowOf_of hq.2.1; clear hq; first | (go_simp; done) | (go_simp; with_reducible rfl)
              simp only [Act.put, List.setIfInBounds_toArray, List.set_cons_zero, List.set_cons_succ]
              refine wpAnyH_take (i := 22) (oi := ⟨some 66, _, _, _, _, _⟩) (v := ?_) rfl (by kernel_rfl) (by kernel_rfl) (by kernel_rfl) (fun _ _ _ h => h) (Or.inl ⟨by kernel_rfl, ?_⟩) hH ?_
              rotate_left 1
              · intro wq hq; obtain ⟨r0, r3, r6, r7, r8⟩ := HRC.out wq hq.1; have re := HEC.out wq hq.2.2; have q1 : rowIs wq g10 66 = true := (by have := rowIs_of hq.2.1; rwa [hartA_size] at this); have q2 : rowOf wq g10 = hartA (F.take 66) := rowOf_of hq.2.1; clear hq; first | (go_simp; done) | (go_simp; with_reducible rfl)
              simp only [Act.put, List.setIfInBounds_toArray, List.set_cons_zero, List.set_cons_succ]
              refine wpAnyH_take (i := 23) (oi := ⟨some 67, _, _, _, _, _⟩) (v := ?_) rfl (by kernel_rfl) (by kernel_rfl) (by kernel_rfl) (fun _ _ _ h => h) (Or.inl ⟨by kernel_rfl, ?_⟩) hH ?_
              rotate_left 1
              · intro wq hq; obtain ⟨r0, r3, r6, r7, r8⟩ := HRC.out wq hq.1; have re := HEC.out wq hq.2.2; have q1 : rowIs wq g10 66 = true := (by have := rowIs_of hq.2.1; rwa [hartA_size] at this); have q2 : rowOf wq g10 = hartA (F.take 66) := rowOf_of hq.2.1; clear hq; first | (go_simp; done) | (go_simp; with_reducible rfl)
              simp only [Act.put, List.setIfInBounds_toArray, List.set_cons_zero, List.set_cons_succ]
              refine wpAnyH_take (i := 24) (oi := ⟨some 68, _, _, _, _, _⟩) (v := ?_) rfl (by kernel_rfl) (by kernel_rfl) (by kernel_rfl) (fun _ _ _ h => h) (Or.inl ⟨by kernel_rfl, ?_⟩) hH ?_
              rotate_left 1
              · intro wq hq; obtain ⟨r0, r3, r6, r7, r8⟩ := HRC.out wq hq.1; have re := HEC.out wq hq.2.2; have q1 : rowIs wq g10 66 = true := (by have := rowIs_of hq.2.1; rwa [hartA_size] at this); have q2 : rowOf wq g10 = hartA (F.take 66) := rowOf_of hq.2.1; clear hq; first | (go_simp; done) | (go_simp; with_reducible rfl)
              simp only [Act.put, List.setIfInBounds_toArray, List.set_cons_zero, List.set_cons_succ]
              refine wpAnyH_take (i := 25) (oi := ⟨some 69, _, _, _, _, _⟩) (v := ?_) rfl (by kernel_rfl) (by kernel_rfl) (by kernel_rfl) (fun _ _ _ h => h) (Or.inl ⟨by kernel_rfl, ?_⟩) hH ?_
              rotate_left 1
              · intro wq hq; obtain ⟨r0, r3, r6, r7, r8⟩ := HRC.out wq hq.1; have re := HEC.out wq hq.2.2; have q1 : rowIs wq g10 66 = true := (by have := rowIs_of hq.2.1; rwa [hartA_size] at this); have q2 : rowOf wq g10 = hartA (F.take 66) := rowOf_of hq.2.1; clear hq; first | (go_simp; done) | (go_simp; with_reducible rfl)
              simp only [Act.put, List.setIfInBounds_toArray, List.set_cons_zero, List.set_cons_succ]
              refine wpAnyH_take (i := 26) (oi := ⟨some 70, _, _, _, _, _⟩) (v := ?_) rfl (by kernel_rfl) (by kernel_rfl) (by kernel_rfl) (fun _ _ _ h => h) (Or.inl ⟨by kernel_rfl, ?_⟩) hH ?_
              rotate_left 1
              · intro wq hq; obtain ⟨r0, r3, r6, r7, r8⟩ := HRC.out wq hq.1; have re := HEC.out wq hq.2.2; have q1 : rowIs wq g10 66 = true := (by have := rowIs_of hq.2.1; rwa [hartA_size] at this); have q2 : rowOf wq g10 = hartA (F.take 66) := rowOf_of hq.2.1; clear hq; first | (go_simp; done) | (go_simp; with_reducible rfl)
              simp only [Act.put, List.setIfInBounds_toArray, List.set_cons_zero, List.set_cons_succ]
              refine wpAnyH_take (i := 27) (oi := ⟨some 71, _, _, _, _, _⟩) (v := undef) rfl (by kernel_rfl) (by kernel_rfl) (by kernel_rfl) (fun _ _ _ h => h) (Or.inr ⟨by kernel_rfl, rfl⟩) hH ?_
              simp only [Act.put, List.setIfInBounds_toArray, List.set_cons_zero, List.set_cons_succ]
              refine wpAnyH_take (i := 28) (oi := ⟨some 72, _, _, _, _, _⟩) (v := undef) rfl (by kernel_rfl) (by kernel_rfl) (by kernel_rfl) (fun _ _ _ h => h) (Or.inr ⟨by kernel_rfl, rfl⟩) hH ?_
              simp only [Act.put, List.setIfInBounds_toArray, List.set_cons_zero, List.set_cons_succ]
              refine wpAnyH_take (i := 29) (oi := ⟨some 73, _, _, _, _, _⟩) (v := undef) rfl (by kernel_rfl) (by kernel_rfl) (by kernel_rfl) (fun _ _ _ h => h) (Or.inr ⟨by kernel_rfl, rfl⟩) hH ?_
              simp only [Act.put, List.setIfInBounds_toArray, List.set_cons_zero, List.set_cons_succ]
              refine wpAnyH_take (i := 30) (oi := ⟨some 74, _, _, _, _, _⟩) (v := undef) rfl (by kernel_rfl) (by kernel_rfl) (by kernel_rfl) (fun _ _ _ h => h) (Or.inr ⟨by kernel_rfl, rfl⟩) hH ?_
              simp only [Act.put, List.setIfInBounds_toArray, List.set_cons_zero, List.set_cons_succ]
              refine wpAnyH_take (i := 31) (oi := ⟨some 75, _, _, _, _, _⟩) (v := undef) rfl (by kernel_rfl) (by kernel_rfl) (by kernel_rfl) (fun _ _ _ h => h) (Or.inr ⟨by kernel_rfl, rfl⟩) hH ?_
              simp only [Act.put, List.setIfInBounds_toArray, List.set_cons_zero, List.set_cons_succ]
              refine wpAnyH_take (i := 32) (oi := ⟨some 76, _, _, _, _, _⟩) (v := undef) rfl (by kernel_rfl) (by kernel_rfl) (by kernel_rfl) (fun _ _ _ h => h) (Or.inr ⟨by kernel_rfl, rfl⟩) hH ?_
              simp only [Act.put, List.setIfInBounds_toArray, List.set_cons_zero, List.set_cons_succ]
              refine wpAnyH_take (i := 33) (oi := ⟨some 77, _, _, _, _, _⟩) (v := undef) rfl (by kernel_rfl) (by kernel_rfl) (by kernel_rfl) (fun _ _ _ h => h) (Or.inr ⟨by kernel_rfl, rfl⟩) hH ?_
              simp only [Act.put, List.setIfInBounds_toArray, List.set_cons_zero, List.set_cons_succ]
              refine wpAnyH_take (i := 34) (oi := ⟨some 78, _, _, _, _, _⟩) (v := undef) rfl (by kernel_rfl) (by kernel_rfl) (by kernel_rfl) (fun _ _ _ h => h) (Or.inr ⟨by kernel_rfl, rfl⟩) hH ?_
              simp only [Act.put, List.setIfInBounds_toArray, List.set_cons_zero, List.set_cons_succ]
              refine wpAnyH_take (i := 35) (oi := ⟨some 79, _, _, _, _, _⟩) (v := ?_) rfl (by kernel_rfl) (by kernel_rfl) (by kernel_rfl) (fun _ _ _ h => h) (Or.inl ⟨by kernel_rfl, ?_⟩) hH ?_
              rotate_left 1
              · intro wq hq; obtain ⟨r0, r3, r6, r7, r8⟩ := HRC.out wq hq.1; have re := HEC.out wq hq.2.2; have q1 : rowIs wq g10 66 = true := (by have := rowIs_of hq.2.1; rwa [hartA_size] at this); have q2 : rowOf wq g10 = hartA (F.take 66) := rowOf_of hq.2.1; clear hq; first | (go_simp; done) | (go_simp; with_reducible rfl)
              simp only [Act.put, List.setIfInBounds_toArray, List.set_cons_zero, List.set_cons_succ]
              refine wpAnyH_take (i := 36) (oi := ⟨some 80, _, _, _, _, _⟩) (v := ?_) rfl (by kernel_rfl) (by kernel_rfl) (by kernel_rfl) (fun _ _ _ h => h) (Or.inl ⟨by kernel_rfl, ?_⟩) hH ?_
              rotate_left 1
              · intro wq hq; obtain ⟨r0, r3, r6, r7, r8⟩ := HRC.out wq hq.1; have re := HEC.out wq hq.2.2; have q1 : rowIs wq g10 66 = true := (by have := rowIs_of hq.2.1; rwa [hartA_size] at this); have q2 : rowOf wq g10 = hartA (F.take 66) := rowOf_of hq.2.1; clear hq; first | (go_simp; done) | (go_simp; with_reducible rfl)
              simp only [Act.put, List.setIfInBounds_toArray, List.set_cons_zero, List.set_cons_succ]
              refine wpAnyH_take (i := 37) (oi := ⟨some 81, _, _, _, _, _⟩) (v := ?_) rfl (by kernel_rfl) (by kernel_rfl) (by kernel_rfl) (fun _ _ _ h => h) (Or.inl ⟨by kernel_rfl, ?_⟩) hH ?_
              rotate_left 1
              · intro wq hq; obtain ⟨r0, r3, r6, r7, r8⟩ := HRC.out wq hq.1; have re := HEC.out wq hq.2.2; have q1 : rowIs wq g10 66 = true := (by have := rowIs_of hq.2.1; rwa [hartA_size] at this); have q2 : rowOf wq g10 = hartA (F.take 66) := rowOf_of hq.2.1; clear hq; first | (go_simp; done) | (go_simp; with_reducible rfl)
              simp only [Act.put, List.setIfInBounds_toArray, List.set_cons_zero, List.set_cons_succ]
              refine wpAnyH_take (i := 38) (oi := ⟨some 82, _, _, _, _, _⟩) (v := ?_) rfl (by kernel_rfl) (by kernel_rfl) (by kernel_rfl) (fun _ _ _ h => h) (Or.inl ⟨by kernel_rfl, ?_⟩) hH ?_
              rotate_left 1
              · intro wq hq; obtain ⟨r0, r3, r6, r7, r8⟩ := HRC.out wq hq.1; have re := HEC.out wq hq.2.2; have q1 : rowIs wq g10 66 = true := (by have := rowIs_of hq.2.1; rwa [hartA_size] at this); have q2 : rowOf wq g10 = hartA (F.take 66) := rowOf_of hq.2.1; clear hq; first | (go_simp; done) | (go_simp; with_reducible rfl)
              simp only [Act.put, List.setIfInBounds_toArray, List.set_cons_zero, List.set_cons_succ]
              refine wpAnyH_take (i := 39) (oi := ⟨some 83, _, _, _, _, _⟩) (v := ?_) rfl (by kernel_rfl) (by kernel_rfl) (by kernel_rfl) (fun _ _ _ h => h) (Or.inl ⟨by kernel_rfl, ?_⟩) hH ?_
              rotate_left 1
              · intro wq hq; obtain ⟨r0, r3, r6, r7, r8⟩ := HRC.out wq hq.1; have re := HEC.out wq hq.2.2; have q1 : rowIs wq g10 66 = true := (by have := rowIs_of hq.2.1; rwa [hartA_size] at this); have q2 : rowOf wq g10 = hartA (F.take 66) := rowOf_of hq.2.1; clear hq; first | (go_simp; done) | (go_simp; with_reducible rfl)
              simp only [Act.put, List.setIfInBounds_toArray, List.set_cons_zero, List.set_cons_succ]
              refine wpAnyH_take (i := 40) (oi := ⟨some 84, _, _, _, _, _⟩) (v := ?_) rfl (by kernel_rfl) (by kernel_rfl) (by kernel_rfl) (fun _ _ _ h => h) (Or.inl ⟨by kernel_rfl, ?_⟩) hH ?_
              rotate_left 1
              · intro wq hq; obtain ⟨r0, r3, r6, r7, r8⟩ := HRC.out wq hq.1; have re := HEC.out wq hq.2.2; have q1 : rowIs wq g10 66 = true := (by have := rowIs_of hq.2.1; rwa [hartA_size] at this); have q2 : rowOf wq g10 = hartA (F.take 66) := rowOf_of hq.2.1; clear hq; first | (go_simp; done) | (go_simp; with_reducible rfl)
              simp only [Act.put, List.setIfInBounds_toArray, List.set_cons_zero, List.set_cons_succ]
              refine wpAnyH_take (i := 41) (oi := ⟨some 85, _, _, _, _, _⟩) (v := ?_) rfl (by kernel_rfl) (by kernel_rfl) (by kernel_rfl) (fun _ _ _ h => h) (Or.inl ⟨by kernel_rfl, ?_⟩) hH ?_
              rotate_left 1
              · intro wq hq; obtain ⟨r0, r3, r6, r7, r8⟩ := HRC.out wq hq.1; have re := HEC.out wq hq.2.2; have q1 : rowIs wq g10 66 = true := (by have := rowIs_of hq.2.1; rwa [hartA_size] at this); have q2 : rowOf wq g10 = hartA (F.take 66) := rowOf_of hq.2.1; clear hq; first | (go_simp; done) | (go_simp; with_reducible rfl)
              simp only [Act.put, List.setIfInBounds_toArray, List.set_cons_zero, List.set_cons_succ]
              refine wpAnyH_take (i := 42) (oi := ⟨some 86, _, _, _, _, _⟩) (v := ?_) rfl (by kernel_rfl) (by kernel_rfl) (by kernel_rfl) (fun _ _ _ h => h) (Or.inl ⟨by kernel_rfl, ?_⟩) hH ?_
              rotate_left 1
              · intro wq hq; obtain ⟨r0, r3, r6, r7, r8⟩ := HRC.out wq hq.1; have re := HEC.out wq hq.2.2; have q1 : rowIs wq g10 66 = true := (by have := rowIs_of hq.2.1; rwa [hartA_size] at this); have q2 : rowOf wq g10 = hartA (F.take 66) := rowOf_of hq.2.1; clear hq; first | (go_simp; done) | (go_simp; with_reducible rfl)
              simp only [Act.put, List.setIfInBounds_toArray, List.set_cons_zero, List.set_cons_succ]
              refine wpAnyH_take (i := 43) (oi := ⟨some 87, _, _, _, _, _⟩) (v := ?_) rfl (by kernel_rfl) (by kernel_rfl) (by kernel_rfl) (fun _ _ _ h => h) (Or.inl ⟨by kernel_rfl, ?_⟩) hH ?_
              rotate_left 1
              · intro wq hq; obtain ⟨r0, r3, r6, r7, r8⟩ := HRC.out wq hq.1; have re := HEC.out wq hq.2.2; have q1 : rowIs wq g10 66 = true := (by have := rowIs_of hq.2.1; rwa [hartA_size] at this); have q2 : rowOf wq g10 = hartA (F.take 66) := rowOf_of hq.2.1; clear hq; first | (go_simp; done) | (go_simp; with_reducible rfl)
              simp only [Act.put, List.setIfInBounds_toArray, List.set_cons_zero, List.set_cons_succ]
              refine wpAnyH_take (i := 44) (oi := ⟨some 88, _, _, _, _, _⟩) (v := ?_) rfl (by kernel_rfl) (by kernel_rfl) (by kernel_rfl) (fun _ _ _ h => h) (Or.inl ⟨by kernel_rfl, ?_⟩) hH ?_
              rotate_left 1
              · intro wq hq; obtain ⟨r0, r3, r6, r7, r8⟩ := HRC.out wq hq.1; have re := HEC.out wq hq.2.2; have q1 : rowIs wq g10 66 = true := (by have := rowIs_of hq.2.1; rwa [hartA_size] at this); have q2 : rowOf wq g10 = hartA (F.take 66) := rowOf_of hq.2.1; clear hq; first | (go_simp; done) | (go_simp; with_reducible rfl)
              simp only [Act.put, List.setIfInBounds_toArray, List.set_cons_zero, List.set_cons_succ]
              refine wpAnyH_take (i := 45) (oi := ⟨some 89, _, _, _, _, _⟩) (v := ?_) rfl (by kernel_rfl) (by kernel_rfl) (by kernel_rfl) (fun _ _ _ h => h) (Or.inl ⟨by kernel_rfl, ?_⟩) hH ?_
              rotate_left 1
              · intro wq hq; obtain ⟨r0, r3, r6, r7, r8⟩ := HRC.out wq hq.1; have re := HEC.out wq hq.2.2; have q1 : rowIs wq g10 66 = true := (by have := rowIs_of hq.2.1; rwa [hartA_size] at this); have q2 : rowOf wq g10 = hartA (F.take 66) := rowOf_of hq.2.1; clear hq; first | (go_simp; done) | (go_simp; with_reducible rfl)
              simp only [Act.put, List.setIfInBounds_toArray, List.set_cons_zero, List.set_cons_succ]
              refine wpAnyH_take (i := 46) (oi := ⟨some 90, _, _, _, _, _⟩) (v := ?_) rfl (by kernel_rfl) (by kernel_rfl) (by kernel_rfl) (fun _ _ _ h => h) (Or.inl ⟨by kernel_rfl, ?_⟩) hH ?_
              rotate_left 1
              · intro wq hq; obtain ⟨r0, r3, r6, r7, r8⟩ := HRC.out wq hq.1; have re := HEC.out wq hq.2.2; have q1 : rowIs wq g10 66 = true := (by have := rowIs_of hq.2.1; rwa [hartA_size] at this); have q2 : rowOf wq g10 = hartA (F.take 66) := rowOf_of hq.2.1; clear hq; first | (go_simp; done) | (go_simp; with_reducible rfl)
              simp only [Act.put, List.setIfInBounds_toArray, List.set_cons_zero, List.set_cons_succ]
              refine wpAnyH_done (by kernel_rfl) ?_ _
              clear hH
              go_wp2_with fail
              refine wp_region_held_drew (S := fun wq => wq.heap[g9]? = some (.cells (recA (F.drop 66)) 30 (0, 0)) ∧ wq.heap[g10]? = some (.cells (hartA (F.take 66)) 43 (0, 0))) (by kernel_rfl) ⟨HREC9.out, HHA9.out⟩ (fun hH => ?_)
              refine wpAnyH_take (i := 0) (oi := ⟨some 91, _, _, _, _, _⟩) (v := ?_) rfl (by kernel_rfl) (by kernel_rfl) (by kernel_rfl) (fun _ _ _ h => h) (Or.inl ⟨by kernel_rfl, ?_⟩) hH ?_
              rotate_left 1
              · intro wq hq; obtain ⟨r0, r3, r6, r7, r8⟩ := HRC.out wq hq.1; have rx := HHY.out wq hq.2; clear hq; first | (go_simp; done) | (go_simp; with_reducible rfl)
              simp only [Act.put, List.setIfInBounds_toArray, List.set_cons_zero, List.set_cons_succ]
              refine wpAnyH_take (i := 1) (oi := ⟨some 92, _, _, _, _, _⟩) (v := ?_) rfl (by kernel_rfl) (by kernel_rfl) (by kernel_rfl) (fun _ _ _ h => h) (Or.inl ⟨by kernel_rfl, ?_⟩) hH ?_
              rotate_left 1
              · intro wq hq; obtain ⟨r0, r3, r6, r7, r8⟩ := HRC.out wq hq.1; have rx := HHY.out wq hq.2; clear hq; first | (go_simp; done) | (go_simp; with_reducible rfl)
              simp only [Act.put, List.setIfInBounds_toArray, List.set_cons_zero, List.set_cons_succ]
              refine wpAnyH_take (i := 2) (oi := ⟨some 93, _, _, _, _, _⟩) (v := ?_) rfl (by kernel_rfl) (by kernel_rfl) (by kernel_rfl) (fun _ _ _ h => h) (Or.inl ⟨by kernel_rfl, ?_⟩) hH ?_
              rotate_left 1
              · intro wq hq; obtain ⟨r0, r3, r6, r7, r8⟩ := HRC.out wq hq.1; have rx := HHY.out wq hq.2; clear hq; first | (go_simp; done) | (go_simp; with_reducible rfl)
              simp only [Act.put, List.setIfInBounds_toArray, List.set_cons_zero, List.set_cons_succ]
              refine wpAnyH_take (i := 3) (oi := ⟨some 94, _, _, _, _, _⟩) (v := ?_) rfl (by kernel_rfl) (by kernel_rfl) (by kernel_rfl) (fun _ _ _ h => h) (Or.inl ⟨by kernel_rfl, ?_⟩) hH ?_
              rotate_left 1
              · intro wq hq; obtain ⟨r0, r3, r6, r7, r8⟩ := HRC.out wq hq.1; have rx := HHY.out wq hq.2; clear hq; first | (go_simp; done) | (go_simp; with_reducible rfl)
              simp only [Act.put, List.setIfInBounds_toArray, List.set_cons_zero, List.set_cons_succ]
              refine wpAnyH_take (i := 4) (oi := ⟨some 95, _, _, _, _, _⟩) (v := ?_) rfl (by kernel_rfl) (by kernel_rfl) (by kernel_rfl) (fun _ _ _ h => h) (Or.inl ⟨by kernel_rfl, ?_⟩) hH ?_
              rotate_left 1
              · intro wq hq; obtain ⟨r0, r3, r6, r7, r8⟩ := HRC.out wq hq.1; have rx := HHY.out wq hq.2; clear hq; first | (go_simp; done) | (go_simp; with_reducible rfl)
              simp only [Act.put, List.setIfInBounds_toArray, List.set_cons_zero, List.set_cons_succ]
              refine wpAnyH_take (i := 5) (oi := ⟨some 96, _, _, _, _, _⟩) (v := ?_) rfl (by kernel_rfl) (by kernel_rfl) (by kernel_rfl) (fun _ _ _ h => h) (Or.inl ⟨by kernel_rfl, ?_⟩) hH ?_
              rotate_left 1
              · intro wq hq; obtain ⟨r0, r3, r6, r7, r8⟩ := HRC.out wq hq.1; have rx := HHY.out wq hq.2; clear hq; first | (go_simp; done) | (go_simp; with_reducible rfl)
              simp only [Act.put, List.setIfInBounds_toArray, List.set_cons_zero, List.set_cons_succ]
              refine wpAnyH_take (i := 6) (oi := ⟨some 97, _, _, _, _, _⟩) (v := ?_) rfl (by kernel_rfl) (by kernel_rfl) (by kernel_rfl) (fun _ _ _ h => h) (Or.inl ⟨by kernel_rfl, ?_⟩) hH ?_
              rotate_left 1
              · intro wq hq; obtain ⟨r0, r3, r6, r7, r8⟩ := HRC.out wq hq.1; have rx := HHY.out wq hq.2; clear hq; first | (go_simp; done) | (go_simp; with_reducible rfl)
              simp only [Act.put, List.setIfInBounds_toArray, List.set_cons_zero, List.set_cons_succ]
              refine wpAnyH_take (i := 7) (oi := ⟨some 98, _, _, _, _, _⟩) (v := ?_) rfl (by kernel_rfl) (by kernel_rfl) (by kernel_rfl) (fun _ _ _ h => h) (Or.inl ⟨by kernel_rfl, ?_⟩) hH ?_
              rotate_left 1
              · intro wq hq; obtain ⟨r0, r3, r6, r7, r8⟩ := HRC.out wq hq.1; have rx := HHY.out wq hq.2; clear hq; first | (go_simp; done) | (go_simp; with_reducible rfl)
              simp only [Act.put, List.setIfInBounds_toArray, List.set_cons_zero, List.set_cons_succ]
              refine wpAnyH_take (i := 8) (oi := ⟨some 99, _, _, _, _, _⟩) (v := ?_) rfl (by kernel_rfl) (by kernel_rfl) (by kernel_rfl) (fun _ _ _ h => h) (Or.inl ⟨by kernel_rfl, ?_⟩) hH ?_
              rotate_left 1
              · intro wq hq; obtain ⟨r0, r3, r6, r7, r8⟩ := HRC.out wq hq.1; have rx := HHY.out wq hq.2; clear hq; first | (go_simp; done) | (go_simp; with_reducible rfl)
              simp only [Act.put, List.setIfInBounds_toArray, List.set_cons_zero, List.set_cons_succ]
              refine wpAnyH_take (i := 9) (oi := ⟨some 100, _, _, _, _, _⟩) (v := ?_) rfl (by kernel_rfl) (by kernel_rfl) (by kernel_rfl) (fun _ _ _ h => h) (Or.inl ⟨by kernel_rfl, ?_⟩) hH ?_
              rotate_left 1
              · intro wq hq; obtain ⟨r0, r3, r6, r7, r8⟩ := HRC.out wq hq.1; have rx := HHY.out wq hq.2; clear hq; first | (go_simp; done) | (go_simp; with_reducible rfl)
              simp only [Act.put, List.setIfInBounds_toArray, List.set_cons_zero, List.set_cons_succ]
              refine wpAnyH_take (i := 10) (oi := ⟨some 101, _, _, _, _, _⟩) (v := ?_) rfl (by kernel_rfl) (by kernel_rfl) (by kernel_rfl) (fun _ _ _ h => h) (Or.inl ⟨by kernel_rfl, ?_⟩) hH ?_
              rotate_left 1
              · intro wq hq; obtain ⟨r0, r3, r6, r7, r8⟩ := HRC.out wq hq.1; have rx := HHY.out wq hq.2; clear hq; first | (go_simp; done) | (go_simp; with_reducible rfl)
              simp only [Act.put, List.setIfInBounds_toArray, List.set_cons_zero, List.set_cons_succ]
              refine wpAnyH_take (i := 11) (oi := ⟨some 102, _, _, _, _, _⟩) (v := ?_) rfl (by kernel_rfl) (by kernel_rfl) (by kernel_rfl) (fun _ _ _ h => h) (Or.inl ⟨by kernel_rfl, ?_⟩) hH ?_
              rotate_left 1
              · intro wq hq; obtain ⟨r0, r3, r6, r7, r8⟩ := HRC.out wq hq.1; have rx := HHY.out wq hq.2; clear hq; first | (go_simp; done) | (go_simp; with_reducible rfl)
              simp only [Act.put, List.setIfInBounds_toArray, List.set_cons_zero, List.set_cons_succ]
              refine wpAnyH_take (i := 12) (oi := ⟨some 103, _, _, _, _, _⟩) (v := ?_) rfl (by kernel_rfl) (by kernel_rfl) (by kernel_rfl) (fun _ _ _ h => h) (Or.inl ⟨by kernel_rfl, ?_⟩) hH ?_
              rotate_left 1
              · intro wq hq; obtain ⟨r0, r3, r6, r7, r8⟩ := HRC.out wq hq.1; have rx := HHY.out wq hq.2; clear hq; first | (go_simp; done) | (go_simp; with_reducible rfl)
              simp only [Act.put, List.setIfInBounds_toArray, List.set_cons_zero, List.set_cons_succ]
              refine wpAnyH_done (by kernel_rfl) ?_ _
              clear hH
              have HKD := Lib.hid (HK9.out.on (Below.refl _ _).drew)
              clear HREC9 HHA9 HK9 HRC HEC HSAY HRNG HE HEB HEV
              go_wp2_with fail
              exact ⟨⟨k + 1, S2, _, _, by omega, by omega, by rw [Int.natCast_succ], HKD.out⟩, by simp [intOf]; omega⟩
        · go_simp
          refine hK.out _ _ (by first | exact ⟨(HK5.out.on ((Below.refl _ _).alloc (Nat.le_refl _) _)).pair, HRNG.out _ (HK5.out.on ((Below.refl _ _).alloc (Nat.le_refl _) _)).below⟩ | exact ⟨(HK3.out.on ((Below.refl _ _).drew.alloc (Nat.le_refl _) _)).pair, HRNG.out _ (HK3.out.on ((Below.refl _ _).drew.alloc (Nat.le_refl _) _)).below⟩) (fun hH => ?_)
          clear hK K
          try simp only [Act.put, List.setIfInBounds_toArray, List.set_cons_zero, List.set_cons_succ]
          refine wpAnyH_ready (rs := [8]) (by kernel_rfl) (by simp) (AllReadyH.cons (o := ⟨some 38, _, _, _, _, _⟩) rfl (fun K hK => ?_) (AllReadyH.nil))
          go_simp
          refine ((HK3.out.on (by first | exact (Below.refl _ _).drew | exact (Below.refl _ _).drew.alloc (Nat.le_refl _) _ | exact ((Below.refl _ _).alloc (Nat.le_refl _) _).drew)).step HE.out).mono ?_
          rintro e w5 ⟨F, S2, hF, rfl, hf, hk5, hS2, ht5⟩
          try (have hzb := (ht5.block wr.heap.size (by simp) (by obtain ⟨l1, l2, l3, l4⟩ := HK3.out.lt; rintro (e | e | e); (· omega); (· omega); have := l4 _ e; omega)).trans (blk_alloc wr.drew _); have hz : rowIs w5 wr.heap.size 12 = true := rowIs_of hzb)
          have HF := Lib.hid hf; have HK5 := Lib.hid hk5; have HS2 := Lib.hid hS2
          try (have HKB := Lib.hid (hk5.setRow (g := wr.heap.size) (recA (List.drop 66 F)) (by have := HK3.out.lt.1; omega) (by have := HK3.out.lt.2.1; omega) (by have := HK3.out.lt.2.2.1; omega) (fun h => by rcases hS2 _ h with h1 | h1; (· have := HK3.out.lt.2.2.2 _ h1; omega); simp at h1; omega) HK3.out.below.size))
          clear hf hk5 hS2 ht5 hF
          go_wp2_with fail
          refine hK.out _ _ ⟨HK5.out.pair, HRNG.out _ HK5.out.below⟩ (fun hH => ?_)
          clear hK K
          try simp only [Act.put, List.setIfInBounds_toArray, List.set_cons_zero, List.set_cons_succ]
          refine wpAnyH_ready (rs := [10]) (by kernel_rfl) (by simp) (AllReadyH.cons (o := ⟨none, _, _, _, _, _⟩) rfl (fun K hK => ?_) (AllReadyH.nil))
          go_simp
          refine hK.out _ _ (by first | exact ⟨(HK5.out.on ((Below.refl _ _).alloc (Nat.le_refl _) _)).pair, HRNG.out _ (HK5.out.on ((Below.refl _ _).alloc (Nat.le_refl _) _)).below⟩ | exact ⟨HKB.out.pair, HRNG.out _ HKB.out.below⟩) (fun hH => ?_)
          clear hK K
          try simp only [Act.put, List.setIfInBounds_toArray, List.set_cons_zero, List.set_cons_succ]
          refine wpAnyH_done (by kernel_rfl) ?_ _
          clear hH
          have HK6 : Hid (Keep W (w5.setRow wr.heap.size (recA (List.drop 66 F))) N q mq p b S2 (F.take 66) (putsL N ct (F.drop 78))) := HKB.out
          have HREC : Hid ((w5.setRow wr.heap.size (recA (List.drop 66 F))).heap[wr.heap.size]? = some (.cells (recA (F.drop 66)) 30 (0, 0))) := setRow_heap _ _ _ _ _ _ hzb
          generalize w5.setRow wr.heap.size (recA (List.drop 66 F)) = w6 at *
          obtain ⟨g9, hg9⟩ : ∃ g, g = wr.heap.size := ⟨_, rfl⟩
          rw [← hg9] at HREC ⊢
          clear hg9
          clear HK5 HS2 HK3 hz hzb HKB
          have c0 : w6.cell? ⟨q, 0, none⟩ = some (.pointer (some ⟨p, 0, none⟩)) := blk_cell HK6.out.pair 0
          go_wp2_with fail
          refine (mach_hart HK6.out.mach).mono ?_
          rintro e w7 ⟨rfl, hb⟩
          have HK7 := Lib.hid (HK6.out.on hb)
          have HREC7 : Hid (w7.heap[g9]? = some (.cells (recA (F.drop 66)) 30 (0, 0))) := (hb.block _ (blk_lt HREC.out)).trans HREC.out
          clear hb HK6 HREC c0
          rw [show (cksV hartC (F.take 66)).toArray = hartA (F.take 66) from rfl]
          go_wp2_with fail
          have HK8 : Hid (Keep W (w7.alloc (.cells (hartA (F.take 66)) 43)) N q mq p b S2 (F.take 66) (putsL N ct (F.drop 78))) := HK7.out.on ((Below.refl _ _).alloc (Nat.le_refl _) _)
          have HREC8 : Hid ((w7.alloc (.cells (hartA (F.take 66)) 43)).heap[g9]? = some (.cells (recA (F.drop 66)) 30 (0, 0))) := (blk_alloc_old _ _ _ (blk_lt HREC7.out)).trans HREC7.out
          have HHA : Hid ((w7.alloc (.cells (hartA (F.take 66)) 43)).heap[w7.heap.size]? = some (.cells (hartA (F.take 66)) 43 (0, 0))) := blk_alloc _ _
          clear HK7 HREC7
          generalize w7.alloc (.cells (hartA (F.take 66)) 43) = w8 at *
          obtain ⟨g10, hg10⟩ : ∃ g, g = w7.heap.size := ⟨_, rfl⟩
          rw [← hg10] at HHA ⊢
          clear hg10
          have HRC : Hid (∀ wq : World, wq.heap[g9]? = some (.cells (recA (F.drop 66)) 30 (0, 0)) → wq.cell? ⟨g9, 0, none⟩ = some (.int .u64 (F.getD 66 0)) ∧ wq.cell? ⟨g9, 3, none⟩ = some (.bool (decide (F.getD 69 0 = 1))) ∧ wq.cell? ⟨g9, 6, none⟩ = some (.int .i64 (F.getD 72 0)) ∧ wq.cell? ⟨g9, 7, none⟩ = some (.int .u64 (F.getD 73 0)) ∧ wq.cell? ⟨g9, 8, none⟩ = some (.int .i64 (F.getD 74 0))) := fun wq hq => rec_cells hq
          have HHC : Hid (∀ wq : World, wq.heap[g10]? = some (.cells (hartA (F.take 66)) 43 (0, 0)) → ∀ j, j < 32 → wq.cell? ⟨g10, 2 + j, none⟩ = some (.int .u64 (F.getD (2 + j) 0))) := fun wq hq j hj => hart_cells hq hj
          have HEC : Hid (∀ wq : World, wq.rangeAt eb (eo + k * 10) (cksV envC (evs k)) → wq.cell? ⟨eb, eo + k * 10, none⟩ = some (.int .u64 (F.getD 66 0))) := fun wq hq => by rw [HF.out.cyc]; exact env_cell hq
          have HSAY : Hid (∀ wq, Calls Tryz.prog 18 #[.agg (hartA (F.take 66))] wq (Gives (.bool true) wq)) := fun wq => rmay_says (F.take 66) HF.out.hart HF.out.may wq
          obtain ⟨rd, hrd⟩ : ∃ rd : Nat, F.getD 72 0 = rd := ⟨(F.getD 72 0).toNat, by have := HF.out.rd.1; omega⟩
          have hrd31 : (rd : Int) ≤ 31 := by have := HF.out.rd.2; omega
          have HX : Hid (0 < rd → F.getD (2 + rd) 0 = F.getD 73 0) := fun h => by have := HF.out.x (by omega); rw [hrd] at this; simpa using this
          have HV0 : Hid (rd = 0 → F.getD 73 0 = 0) := fun h => HF.out.v0 (by omega)
          have HT1 : Hid (F.getD 69 0 = 1 → rd = 0 ∧ F.getD 74 0 = 0) := fun h => by have := HF.out.t1 h; exact ⟨by omega, this.2⟩
          rw [hrd] at HRC
          have HT := Lib.hid HF.out.tr
          clear hrd HF
          generalize F.getD 66 0 = CY at *
          generalize F.getD 69 0 = TR at *
          generalize F.getD 73 0 = VA at *
          generalize F.getD 74 0 = ME at *
          have HHX : Hid (0 < rd → ∀ wq : World, wq.heap[g10]? = some (.cells (hartA (F.take 66)) 43 (0, 0)) → wq.cell? ⟨g10, 2 + rd, none⟩ = some (.int .u64 VA)) := fun h wq hq => by rw [← HX.out h]; exact HHC.out wq hq rd (by omega)
          clear HHC HX
          by_cases hTR : TR = 1
          · obtain ⟨rfl, rfl⟩ := HT1.out hTR
            obtain rfl : VA = 0 := HV0.out rfl
            subst hTR
            clear HT HV0 HT1 HHX
            refine wp_region_held_drew (S := fun wq => wq.heap[g9]? = some (.cells (recA (F.drop 66)) 30 (0, 0)) ∧ wq.heap[g10]? = some (.cells (hartA (F.take 66)) 43 (0, 0)) ∧ wq.rangeAt eb (eo + k * 10) (cksV envC (evs k))) (by kernel_rfl) ⟨HREC8.out, HHA.out, HRNG.out _ HK8.out.below.drew⟩ (fun hH => ?_)
            refine wpAnyH_take (i := 0) (oi := ⟨some 44, _, _, _, _, _⟩) (v := ?_) rfl (by kernel_rfl) (by kernel_rfl) (by kernel_rfl) (fun _ _ _ h => h) (Or.inl ⟨by kernel_rfl, ?_⟩) hH ?_
            rotate_left 1
            · intro wq hq; obtain ⟨r0, r3, r6, r7, r8⟩ := HRC.out wq hq.1; have re := HEC.out wq hq.2.2; have q1 : rowIs wq g10 66 = true := (by have := rowIs_of hq.2.1; rwa [hartA_size] at this); have q2 : rowOf wq g10 = hartA (F.take 66) := rowOf_of hq.2.1; clear hq; first | (go_simp; done) | (go_simp; with_reducible rfl)
            simp only [Act.put, List.setIfInBounds_toArray, List.set_cons_zero, List.set_cons_succ]
            refine wpAnyH_ready (rs := [1]) (by kernel_rfl) (by simp) (AllReadyH.cons (o := ⟨some 45, _, _, _, _, _⟩) rfl (fun K hK => ?_) AllReadyH.nil)
            go_simp
            refine (HSAY.out _).mono ?_
            rintro e w9 ⟨rfl, hb⟩
            have HK9 := Lib.hid ((HK8.out.on (Below.refl _ _).drew).on hb)
            have HREC9 : Hid (w9.heap[g9]? = some (.cells (recA (F.drop 66)) 30 (0, 0))) := (hb.block _ (blk_lt HREC8.out)).trans HREC8.out
            have HHA9 : Hid (w9.heap[g10]? = some (.cells (hartA (F.take 66)) 43 (0, 0))) := (hb.block _ (blk_lt HHA.out)).trans HHA.out
            clear hb HK8 HREC8 HHA
            go_wp2_with fail
            refine hK.out _ _ ⟨HREC9.out, HHA9.out, HRNG.out _ HK9.out.below⟩ (fun hH => ?_)
            clear hK K
            try simp only [Act.put, List.setIfInBounds_toArray, List.set_cons_zero, List.set_cons_succ]
            refine wpAnyH_take (i := 2) (oi := ⟨some 46, _, _, _, _, _⟩) (v := ?_) rfl (by kernel_rfl) (by kernel_rfl) (by kernel_rfl) (fun _ _ _ h => h) (Or.inl ⟨by kernel_rfl, ?_⟩) hH ?_
            rotate_left 1
            · intro wq hq; obtain ⟨r0, r3, r6, r7, r8⟩ := HRC.out wq hq.1; have re := HEC.out wq hq.2.2; have q1 : rowIs wq g10 66 = true := (by have := rowIs_of hq.2.1; rwa [hartA_size] at this); have q2 : rowOf wq g10 = hartA (F.take 66) := rowOf_of hq.2.1; clear hq; first | (go_simp; done) | (go_simp; with_reducible rfl)
            simp only [Act.put, List.setIfInBounds_toArray, List.set_cons_zero, List.set_cons_succ]
            refine wpAnyH_take (i := 3) (oi := ⟨some 47, _, _, _, _, _⟩) (v := ?_) rfl (by kernel_rfl) (by kernel_rfl) (by kernel_rfl) (fun _ _ _ h => h) (Or.inl ⟨by kernel_rfl, ?_⟩) hH ?_
            rotate_left 1
            · intro wq hq; obtain ⟨r0, r3, r6, r7, r8⟩ := HRC.out wq hq.1; have re := HEC.out wq hq.2.2; have q1 : rowIs wq g10 66 = true := (by have := rowIs_of hq.2.1; rwa [hartA_size] at this); have q2 : rowOf wq g10 = hartA (F.take 66) := rowOf_of hq.2.1; clear hq; first | (go_simp; done) | (go_simp; with_reducible rfl)
            simp only [Act.put, List.setIfInBounds_toArray, List.set_cons_zero, List.set_cons_succ]
            refine wpAnyH_take (i := 4) (oi := ⟨some 48, _, _, _, _, _⟩) (v := ?_) rfl (by kernel_rfl) (by kernel_rfl) (by kernel_rfl) (fun _ _ _ h => h) (Or.inl ⟨by kernel_rfl, ?_⟩) hH ?_
            rotate_left 1
            · intro wq hq; obtain ⟨r0, r3, r6, r7, r8⟩ := HRC.out wq hq.1; have re := HEC.out wq hq.2.2; have q1 : rowIs wq g10 66 = true := (by have := rowIs_of hq.2.1; rwa [hartA_size] at this); have q2 : rowOf wq g10 = hartA (F.take 66) := rowOf_of hq.2.1; clear hq; first | (go_simp; done) | (go_simp; with_reducible rfl)
            simp only [Act.put, List.setIfInBounds_toArray, List.set_cons_zero, List.set_cons_succ]
            refine wpAnyH_take (i := 5) (oi := ⟨some 49, _, _, _, _, _⟩) (v := ?_) rfl (by kernel_rfl) (by kernel_rfl) (by kernel_rfl) (fun _ _ _ h => h) (Or.inl ⟨by kernel_rfl, ?_⟩) hH ?_
            rotate_left 1
            · intro wq hq; obtain ⟨r0, r3, r6, r7, r8⟩ := HRC.out wq hq.1; have re := HEC.out wq hq.2.2; have q1 : rowIs wq g10 66 = true := (by have := rowIs_of hq.2.1; rwa [hartA_size] at this); have q2 : rowOf wq g10 = hartA (F.take 66) := rowOf_of hq.2.1; clear hq; first | (go_simp; done) | (go_simp; with_reducible rfl)
            simp only [Act.put, List.setIfInBounds_toArray, List.set_cons_zero, List.set_cons_succ]
            refine wpAnyH_take (i := 6) (oi := ⟨some 50, _, _, _, _, _⟩) (v := ?_) rfl (by kernel_rfl) (by kernel_rfl) (by kernel_rfl) (fun _ _ _ h => h) (Or.inl ⟨by kernel_rfl, ?_⟩) hH ?_
            rotate_left 1
            · intro wq hq; obtain ⟨r0, r3, r6, r7, r8⟩ := HRC.out wq hq.1; have re := HEC.out wq hq.2.2; have q1 : rowIs wq g10 66 = true := (by have := rowIs_of hq.2.1; rwa [hartA_size] at this); have q2 : rowOf wq g10 = hartA (F.take 66) := rowOf_of hq.2.1; clear hq; first | (go_simp; done) | (go_simp; with_reducible rfl)
            simp only [Act.put, List.setIfInBounds_toArray, List.set_cons_zero, List.set_cons_succ]
            refine wpAnyH_take (i := 7) (oi := ⟨some 51, _, _, _, _, _⟩) (v := ?_) rfl (by kernel_rfl) (by kernel_rfl) (by kernel_rfl) (fun _ _ _ h => h) (Or.inl ⟨by kernel_rfl, ?_⟩) hH ?_
            rotate_left 1
            · intro wq hq; obtain ⟨r0, r3, r6, r7, r8⟩ := HRC.out wq hq.1; have re := HEC.out wq hq.2.2; have q1 : rowIs wq g10 66 = true := (by have := rowIs_of hq.2.1; rwa [hartA_size] at this); have q2 : rowOf wq g10 = hartA (F.take 66) := rowOf_of hq.2.1; clear hq; first | (go_simp; done) | (go_simp; with_reducible rfl)
            simp only [Act.put, List.setIfInBounds_toArray, List.set_cons_zero, List.set_cons_succ]
            refine wpAnyH_take (i := 8) (oi := ⟨some 52, _, _, _, _, _⟩) (v := ?_) rfl (by kernel_rfl) (by kernel_rfl) (by kernel_rfl) (fun _ _ _ h => h) (Or.inl ⟨by kernel_rfl, ?_⟩) hH ?_
            rotate_left 1
            · intro wq hq; obtain ⟨r0, r3, r6, r7, r8⟩ := HRC.out wq hq.1; have re := HEC.out wq hq.2.2; have q1 : rowIs wq g10 66 = true := (by have := rowIs_of hq.2.1; rwa [hartA_size] at this); have q2 : rowOf wq g10 = hartA (F.take 66) := rowOf_of hq.2.1; clear hq; first | (go_simp; done) | (go_simp; with_reducible rfl)
            simp only [Act.put, List.setIfInBounds_toArray, List.set_cons_zero, List.set_cons_succ]
            refine wpAnyH_take (i := 9) (oi := ⟨some 53, _, _, _, _, _⟩) (v := ?_) rfl (by kernel_rfl) (by kernel_rfl) (by kernel_rfl) (fun _ _ _ h => h) (Or.inl ⟨by kernel_rfl, ?_⟩) hH ?_
            rotate_left 1
            · intro wq hq; obtain ⟨r0, r3, r6, r7, r8⟩ := HRC.out wq hq.1; have re := HEC.out wq hq.2.2; have q1 : rowIs wq g10 66 = true := (by have := rowIs_of hq.2.1; rwa [hartA_size] at this); have q2 : rowOf wq g10 = hartA (F.take 66) := rowOf_of hq.2.1; clear hq; first | (go_simp; done) | (go_simp; with_reducible rfl)
            simp only [Act.put, List.setIfInBounds_toArray, List.set_cons_zero, List.set_cons_succ]
            refine wpAnyH_take (i := 10) (oi := ⟨some 54, _, _, _, _, _⟩) (v := ?_) rfl (by kernel_rfl) (by kernel_rfl) (by kernel_rfl) (fun _ _ _ h => h) (Or.inl ⟨by kernel_rfl, ?_⟩) hH ?_
            rotate_left 1
            · intro wq hq; obtain ⟨r0, r3, r6, r7, r8⟩ := HRC.out wq hq.1; have re := HEC.out wq hq.2.2; have q1 : rowIs wq g10 66 = true := (by have := rowIs_of hq.2.1; rwa [hartA_size] at this); have q2 : rowOf wq g10 = hartA (F.take 66) := rowOf_of hq.2.1; clear hq; first | (go_simp; done) | (go_simp; with_reducible rfl)
            simp only [Act.put, List.setIfInBounds_toArray, List.set_cons_zero, List.set_cons_succ]
            refine wpAnyH_take (i := 11) (oi := ⟨some 55, _, _, _, _, _⟩) (v := ?_) rfl (by kernel_rfl) (by kernel_rfl) (by kernel_rfl) (fun _ _ _ h => h) (Or.inl ⟨by kernel_rfl, ?_⟩) hH ?_
            rotate_left 1
            · intro wq hq; obtain ⟨r0, r3, r6, r7, r8⟩ := HRC.out wq hq.1; have re := HEC.out wq hq.2.2; have q1 : rowIs wq g10 66 = true := (by have := rowIs_of hq.2.1; rwa [hartA_size] at this); have q2 : rowOf wq g10 = hartA (F.take 66) := rowOf_of hq.2.1; clear hq; first | (go_simp; done) | (go_simp; with_reducible rfl)
            simp only [Act.put, List.setIfInBounds_toArray, List.set_cons_zero, List.set_cons_succ]
            refine wpAnyH_take (i := 12) (oi := ⟨some 56, _, _, _, _, _⟩) (v := ?_) rfl (by kernel_rfl) (by kernel_rfl) (by kernel_rfl) (fun _ _ _ h => h) (Or.inl ⟨by kernel_rfl, ?_⟩) hH ?_
            rotate_left 1
            · intro wq hq; obtain ⟨r0, r3, r6, r7, r8⟩ := HRC.out wq hq.1; have re := HEC.out wq hq.2.2; have q1 : rowIs wq g10 66 = true := (by have := rowIs_of hq.2.1; rwa [hartA_size] at this); have q2 : rowOf wq g10 = hartA (F.take 66) := rowOf_of hq.2.1; clear hq; first | (go_simp; done) | (go_simp; with_reducible rfl)
            simp only [Act.put, List.setIfInBounds_toArray, List.set_cons_zero, List.set_cons_succ]
            refine wpAnyH_take (i := 13) (oi := ⟨some 57, _, _, _, _, _⟩) (v := ?_) rfl (by kernel_rfl) (by kernel_rfl) (by kernel_rfl) (fun _ _ _ h => h) (Or.inl ⟨by kernel_rfl, ?_⟩) hH ?_
            rotate_left 1
            · intro wq hq; obtain ⟨r0, r3, r6, r7, r8⟩ := HRC.out wq hq.1; have re := HEC.out wq hq.2.2; have q1 : rowIs wq g10 66 = true := (by have := rowIs_of hq.2.1; rwa [hartA_size] at this); have q2 : rowOf wq g10 = hartA (F.take 66) := rowOf_of hq.2.1; clear hq; first | (go_simp; done) | (go_simp; with_reducible rfl)
            simp only [Act.put, List.setIfInBounds_toArray, List.set_cons_zero, List.set_cons_succ]
            refine wpAnyH_take (i := 14) (oi := ⟨some 58, _, _, _, _, _⟩) (v := ?_) rfl (by kernel_rfl) (by kernel_rfl) (by kernel_rfl) (fun _ _ _ h => h) (Or.inl ⟨by kernel_rfl, ?_⟩) hH ?_
            rotate_left 1
            · intro wq hq; obtain ⟨r0, r3, r6, r7, r8⟩ := HRC.out wq hq.1; have re := HEC.out wq hq.2.2; have q1 : rowIs wq g10 66 = true := (by have := rowIs_of hq.2.1; rwa [hartA_size] at this); have q2 : rowOf wq g10 = hartA (F.take 66) := rowOf_of hq.2.1; clear hq; first | (go_simp; done) | (go_simp; with_reducible rfl)
            simp only [Act.put, List.setIfInBounds_toArray, List.set_cons_zero, List.set_cons_succ]
            refine wpAnyH_take (i := 15) (oi := ⟨some 59, _, _, _, _, _⟩) (v := ?_) rfl (by kernel_rfl) (by kernel_rfl) (by kernel_rfl) (fun _ _ _ h => h) (Or.inl ⟨by kernel_rfl, ?_⟩) hH ?_
            rotate_left 1
            · intro wq hq; obtain ⟨r0, r3, r6, r7, r8⟩ := HRC.out wq hq.1; have re := HEC.out wq hq.2.2; have q1 : rowIs wq g10 66 = true := (by have := rowIs_of hq.2.1; rwa [hartA_size] at this); have q2 : rowOf wq g10 = hartA (F.take 66) := rowOf_of hq.2.1; clear hq; first | (go_simp; done) | (go_simp; with_reducible rfl)
            simp only [Act.put, List.setIfInBounds_toArray, List.set_cons_zero, List.set_cons_succ]
            refine wpAnyH_take (i := 16) (oi := ⟨some 60, _, _, _, _, _⟩) (v := ?_) rfl (by kernel_rfl) (by kernel_rfl) (by kernel_rfl) (fun _ _ _ h => h) (Or.inl ⟨by kernel_rfl, ?_⟩) hH ?_
            rotate_left 1
            · intro wq hq; obtain ⟨r0, r3, r6, r7, r8⟩ := HRC.out wq hq.1; have re := HEC.out wq hq.2.2; have q1 : rowIs wq g10 66 = true := (by have := rowIs_of hq.2.1; rwa [hartA_size] at this); have q2 : rowOf wq g10 = hartA (F.take 66) := rowOf_of hq.2.1; clear hq; first | (go_simp; done) | (go_simp; with_reducible rfl)
            simp only [Act.put, List.setIfInBounds_toArray, List.set_cons_zero, List.set_cons_succ]
            refine wpAnyH_take (i := 17) (oi := ⟨some 61, _, _, _, _, _⟩) (v := ?_) rfl (by kernel_rfl) (by kernel_rfl) (by kernel_rfl) (fun _ _ _ h => h) (Or.inl ⟨by kernel_rfl, ?_⟩) hH ?_
            rotate_left 1
            · intro wq hq; obtain ⟨r0, r3, r6, r7, r8⟩ := HRC.out wq hq.1; have re := HEC.out wq hq.2.2; have q1 : rowIs wq g10 66 = true := (by have := rowIs_of hq.2.1; rwa [hartA_size] at this); have q2 : rowOf wq g10 = hartA (F.take 66) := rowOf_of hq.2.1; clear hq; first | (go_simp; done) | (go_simp; with_reducible rfl)
            simp only [Act.put, List.setIfInBounds_toArray, List.set_cons_zero, List.set_cons_succ]
            refine wpAnyH_take (i := 18) (oi := ⟨some 62, _, _, _, _, _⟩) (v := ?_) rfl (by kernel_rfl) (by kernel_rfl) (by kernel_rfl) (fun _ _ _ h => h) (Or.inl ⟨by kernel_rfl, ?_⟩) hH ?_
            rotate_left 1
            · intro wq hq; obtain ⟨r0, r3, r6, r7, r8⟩ := HRC.out wq hq.1; have re := HEC.out wq hq.2.2; have q1 : rowIs wq g10 66 = true := (by have := rowIs_of hq.2.1; rwa [hartA_size] at this); have q2 : rowOf wq g10 = hartA (F.take 66) := rowOf_of hq.2.1; clear hq; first | (go_simp; done) | (go_simp; with_reducible rfl)
            simp only [Act.put, List.setIfInBounds_toArray, List.set_cons_zero, List.set_cons_succ]
            refine wpAnyH_take (i := 19) (oi := ⟨some 63, _, _, _, _, _⟩) (v := ?_) rfl (by kernel_rfl) (by kernel_rfl) (by kernel_rfl) (fun _ _ _ h => h) (Or.inl ⟨by kernel_rfl, ?_⟩) hH ?_
            rotate_left 1
            · intro wq hq; obtain ⟨r0, r3, r6, r7, r8⟩ := HRC.out wq hq.1; have re := HEC.out wq hq.2.2; have q1 : rowIs wq g10 66 = true := (by have := rowIs_of hq.2.1; rwa [hartA_size] at this); have q2 : rowOf wq g10 = hartA (F.take 66) := rowOf_of hq.2.1; clear hq; first | (go_simp; done) | (go_simp; with_reducible rfl)
            simp only [Act.put, List.setIfInBounds_toArray, List.set_cons_zero, List.set_cons_succ]
            refine wpAnyH_take (i := 20) (oi := ⟨some 64, _, _, _, _, _⟩) (v := ?_) rfl (by kernel_rfl) (by kernel_rfl) (by kernel_rfl) (fun _ _ _ h => h) (Or.inl ⟨by kernel_rfl, ?_⟩) hH ?_
            rotate_left 1
            · intro wq hq; obtain ⟨r0, r3, r6, r7, r8⟩ := HRC.out wq hq.1; have re := HEC.out wq hq.2.2; have q1 : rowIs wq g10 66 = true := (by have := rowIs_of hq.2.1; rwa [hartA_size] at this); have q2 : rowOf wq g10 = hartA (F.take 66) := rowOf_of hq.2.1; clear hq; first | (go_simp; done) | (go_simp; with_reducible rfl)
            simp only [Act.put, List.setIfInBounds_toArray, List.set_cons_zero, List.set_cons_succ]
            refine wpAnyH_take (i := 21) (oi := ⟨some 65, _, _, _, _, _⟩) (v := ?_) rfl (by kernel_rfl) (by kernel_rfl) (by kernel_rfl) (fun _ _ _ h => h) (Or.inl ⟨by kernel_rfl, ?_⟩) hH ?_
            rotate_left 1
            · intro wq hq; obtain ⟨r0, r3, r6, r7, r8⟩ := HRC.out wq hq.1; have re := HEC.out wq hq.2.2; have q1 : rowIs wq g10 66 = true := (by have := rowIs_of hq.2.1; rwa [hartA_size] at this); have q2 : rowOf wq g10 = hartA (F.take 66) := rowOf_of hq.2.1; clear hq; first | (go_simp; done) | (go_simp; with_reducible rfl)
            simp only [Act.put, List.setIfInBounds_toArray, List.set_cons_zero, List.set_cons_succ]
            refine wpAnyH_take (i := 22) (oi := ⟨some 66, _, _, _, _, _⟩) (v := ?_) rfl (by kernel_rfl) (by kernel_rfl) (by kernel_rfl) (fun _ _ _ h => h) (Or.inl ⟨by kernel_rfl, ?_⟩) hH ?_
            rotate_left 1
            · intro wq hq; obtain ⟨r0, r3, r6, r7, r8⟩ := HRC.out wq hq.1; have re := HEC.out wq hq.2.2; have q1 : rowIs wq g10 66 = true := (by have := rowIs_of hq.2.1; rwa [hartA_size] at this); have q2 : rowOf wq g10 = hartA (F.take 66) := rowOf_of hq.2.1; clear hq; first | (go_simp; done) | (go_simp; with_reducible rfl)
            simp only [Act.put, List.setIfInBounds_toArray, List.set_cons_zero, List.set_cons_succ]
            refine wpAnyH_take (i := 23) (oi := ⟨some 67, _, _, _, _, _⟩) (v := ?_) rfl (by kernel_rfl) (by kernel_rfl) (by kernel_rfl) (fun _ _ _ h => h) (Or.inl ⟨by kernel_rfl, ?_⟩) hH ?_
            rotate_left 1
            · intro wq hq; obtain ⟨r0, r3, r6, r7, r8⟩ := HRC.out wq hq.1; have re := HEC.out wq hq.2.2; have q1 : rowIs wq g10 66 = true := (by have := rowIs_of hq.2.1; rwa [hartA_size] at this); have q2 : rowOf wq g10 = hartA (F.take 66) := rowOf_of hq.2.1; clear hq; first | (go_simp; done) | (go_simp; with_reducible rfl)
            simp only [Act.put, List.setIfInBounds_toArray, List.set_cons_zero, List.set_cons_succ]
            refine wpAnyH_take (i := 24) (oi := ⟨some 68, _, _, _, _, _⟩) (v := ?_) rfl (by kernel_rfl) (by kernel_rfl) (by kernel_rfl) (fun _ _ _ h => h) (Or.inl ⟨by kernel_rfl, ?_⟩) hH ?_
            rotate_left 1
            · intro wq hq; obtain ⟨r0, r3, r6, r7, r8⟩ := HRC.out wq hq.1; have re := HEC.out wq hq.2.2; have q1 : rowIs wq g10 66 = true := (by have := rowIs_of hq.2.1; rwa [hartA_size] at this); have q2 : rowOf wq g10 = hartA (F.take 66) := rowOf_of hq.2.1; clear hq; first | (go_simp; done) | (go_simp; with_reducible rfl)
            simp only [Act.put, List.setIfInBounds_toArray, List.set_cons_zero, List.set_cons_succ]
            refine wpAnyH_take (i := 25) (oi := ⟨some 69, _, _, _, _, _⟩) (v := ?_) rfl (by kernel_rfl) (by kernel_rfl) (by kernel_rfl) (fun _ _ _ h => h) (Or.inl ⟨by kernel_rfl, ?_⟩) hH ?_
            rotate_left 1
            · intro wq hq; obtain ⟨r0, r3, r6, r7, r8⟩ := HRC.out wq hq.1; have re := HEC.out wq hq.2.2; have q1 : rowIs wq g10 66 = true := (by have := rowIs_of hq.2.1; rwa [hartA_size] at this); have q2 : rowOf wq g10 = hartA (F.take 66) := rowOf_of hq.2.1; clear hq; first | (go_simp; done) | (go_simp; with_reducible rfl)
            simp only [Act.put, List.setIfInBounds_toArray, List.set_cons_zero, List.set_cons_succ]
            refine wpAnyH_take (i := 26) (oi := ⟨some 70, _, _, _, _, _⟩) (v := ?_) rfl (by kernel_rfl) (by kernel_rfl) (by kernel_rfl) (fun _ _ _ h => h) (Or.inl ⟨by kernel_rfl, ?_⟩) hH ?_
            rotate_left 1
            · intro wq hq; obtain ⟨r0, r3, r6, r7, r8⟩ := HRC.out wq hq.1; have re := HEC.out wq hq.2.2; have q1 : rowIs wq g10 66 = true := (by have := rowIs_of hq.2.1; rwa [hartA_size] at this); have q2 : rowOf wq g10 = hartA (F.take 66) := rowOf_of hq.2.1; clear hq; first | (go_simp; done) | (go_simp; with_reducible rfl)
            simp only [Act.put, List.setIfInBounds_toArray, List.set_cons_zero, List.set_cons_succ]
            refine wpAnyH_take (i := 27) (oi := ⟨some 71, _, _, _, _, _⟩) (v := ?_) rfl (by kernel_rfl) (by kernel_rfl) (by kernel_rfl) (fun _ _ _ h => h) (Or.inl ⟨by kernel_rfl, ?_⟩) hH ?_
            rotate_left 1
            · intro wq hq; obtain ⟨r0, r3, r6, r7, r8⟩ := HRC.out wq hq.1; have re := HEC.out wq hq.2.2; have q1 : rowIs wq g10 66 = true := (by have := rowIs_of hq.2.1; rwa [hartA_size] at this); have q2 : rowOf wq g10 = hartA (F.take 66) := rowOf_of hq.2.1; clear hq; first | (go_simp; done) | (go_simp; with_reducible rfl)
            simp only [Act.put, List.setIfInBounds_toArray, List.set_cons_zero, List.set_cons_succ]
            refine wpAnyH_take (i := 28) (oi := ⟨some 72, _, _, _, _, _⟩) (v := ?_) rfl (by kernel_rfl) (by kernel_rfl) (by kernel_rfl) (fun _ _ _ h => h) (Or.inl ⟨by kernel_rfl, ?_⟩) hH ?_
            rotate_left 1
            · intro wq hq; obtain ⟨r0, r3, r6, r7, r8⟩ := HRC.out wq hq.1; have re := HEC.out wq hq.2.2; have q1 : rowIs wq g10 66 = true := (by have := rowIs_of hq.2.1; rwa [hartA_size] at this); have q2 : rowOf wq g10 = hartA (F.take 66) := rowOf_of hq.2.1; clear hq; first | (go_simp; done) | (go_simp; with_reducible rfl)
            simp only [Act.put, List.setIfInBounds_toArray, List.set_cons_zero, List.set_cons_succ]
            refine wpAnyH_take (i := 29) (oi := ⟨some 73, _, _, _, _, _⟩) (v := ?_) rfl (by kernel_rfl) (by kernel_rfl) (by kernel_rfl) (fun _ _ _ h => h) (Or.inl ⟨by kernel_rfl, ?_⟩) hH ?_
            rotate_left 1
            · intro wq hq; obtain ⟨r0, r3, r6, r7, r8⟩ := HRC.out wq hq.1; have re := HEC.out wq hq.2.2; have q1 : rowIs wq g10 66 = true := (by have := rowIs_of hq.2.1; rwa [hartA_size] at this); have q2 : rowOf wq g10 = hartA (F.take 66) := rowOf_of hq.2.1; clear hq; first | (go_simp; done) | (go_simp; with_reducible rfl)
            simp only [Act.put, List.setIfInBounds_toArray, List.set_cons_zero, List.set_cons_succ]
            refine wpAnyH_take (i := 30) (oi := ⟨some 74, _, _, _, _, _⟩) (v := ?_) rfl (by kernel_rfl) (by kernel_rfl) (by kernel_rfl) (fun _ _ _ h => h) (Or.inl ⟨by kernel_rfl, ?_⟩) hH ?_
            rotate_left 1
            · intro wq hq; obtain ⟨r0, r3, r6, r7, r8⟩ := HRC.out wq hq.1; have re := HEC.out wq hq.2.2; have q1 : rowIs wq g10 66 = true := (by have := rowIs_of hq.2.1; rwa [hartA_size] at this); have q2 : rowOf wq g10 = hartA (F.take 66) := rowOf_of hq.2.1; clear hq; first | (go_simp; done) | (go_simp; with_reducible rfl)
            simp only [Act.put, List.setIfInBounds_toArray, List.set_cons_zero, List.set_cons_succ]
            refine wpAnyH_take (i := 31) (oi := ⟨some 75, _, _, _, _, _⟩) (v := ?_) rfl (by kernel_rfl) (by kernel_rfl) (by kernel_rfl) (fun _ _ _ h => h) (Or.inl ⟨by kernel_rfl, ?_⟩) hH ?_
            rotate_left 1
            · intro wq hq; obtain ⟨r0, r3, r6, r7, r8⟩ := HRC.out wq hq.1; have re := HEC.out wq hq.2.2; have q1 : rowIs wq g10 66 = true := (by have := rowIs_of hq.2.1; rwa [hartA_size] at this); have q2 : rowOf wq g10 = hartA (F.take 66) := rowOf_of hq.2.1; clear hq; first | (go_simp; done) | (go_simp; with_reducible rfl)
            simp only [Act.put, List.setIfInBounds_toArray, List.set_cons_zero, List.set_cons_succ]
            refine wpAnyH_take (i := 32) (oi := ⟨some 76, _, _, _, _, _⟩) (v := ?_) rfl (by kernel_rfl) (by kernel_rfl) (by kernel_rfl) (fun _ _ _ h => h) (Or.inl ⟨by kernel_rfl, ?_⟩) hH ?_
            rotate_left 1
            · intro wq hq; obtain ⟨r0, r3, r6, r7, r8⟩ := HRC.out wq hq.1; have re := HEC.out wq hq.2.2; have q1 : rowIs wq g10 66 = true := (by have := rowIs_of hq.2.1; rwa [hartA_size] at this); have q2 : rowOf wq g10 = hartA (F.take 66) := rowOf_of hq.2.1; clear hq; first | (go_simp; done) | (go_simp; with_reducible rfl)
            simp only [Act.put, List.setIfInBounds_toArray, List.set_cons_zero, List.set_cons_succ]
            refine wpAnyH_take (i := 33) (oi := ⟨some 77, _, _, _, _, _⟩) (v := ?_) rfl (by kernel_rfl) (by kernel_rfl) (by kernel_rfl) (fun _ _ _ h => h) (Or.inl ⟨by kernel_rfl, ?_⟩) hH ?_
            rotate_left 1
            · intro wq hq; obtain ⟨r0, r3, r6, r7, r8⟩ := HRC.out wq hq.1; have re := HEC.out wq hq.2.2; have q1 : rowIs wq g10 66 = true := (by have := rowIs_of hq.2.1; rwa [hartA_size] at this); have q2 : rowOf wq g10 = hartA (F.take 66) := rowOf_of hq.2.1; clear hq; first | (go_simp; done) | (go_simp; with_reducible rfl)
            simp only [Act.put, List.setIfInBounds_toArray, List.set_cons_zero, List.set_cons_succ]
            refine wpAnyH_take (i := 34) (oi := ⟨some 78, _, _, _, _, _⟩) (v := ?_) rfl (by kernel_rfl) (by kernel_rfl) (by kernel_rfl) (fun _ _ _ h => h) (Or.inl ⟨by kernel_rfl, ?_⟩) hH ?_
            rotate_left 1
            · intro wq hq; obtain ⟨r0, r3, r6, r7, r8⟩ := HRC.out wq hq.1; have re := HEC.out wq hq.2.2; have q1 : rowIs wq g10 66 = true := (by have := rowIs_of hq.2.1; rwa [hartA_size] at this); have q2 : rowOf wq g10 = hartA (F.take 66) := rowOf_of hq.2.1; clear hq; first | (go_simp; done) | (go_simp; with_reducible rfl)
            simp only [Act.put, List.setIfInBounds_toArray, List.set_cons_zero, List.set_cons_succ]
            refine wpAnyH_take (i := 35) (oi := ⟨some 79, _, _, _, _, _⟩) (v := ?_) rfl (by kernel_rfl) (by kernel_rfl) (by kernel_rfl) (fun _ _ _ h => h) (Or.inl ⟨by kernel_rfl, ?_⟩) hH ?_
            rotate_left 1
            · intro wq hq; obtain ⟨r0, r3, r6, r7, r8⟩ := HRC.out wq hq.1; have re := HEC.out wq hq.2.2; have q1 : rowIs wq g10 66 = true := (by have := rowIs_of hq.2.1; rwa [hartA_size] at this); have q2 : rowOf wq g10 = hartA (F.take 66) := rowOf_of hq.2.1; clear hq; first | (go_simp; done) | (go_simp; with_reducible rfl)
            simp only [Act.put, List.setIfInBounds_toArray, List.set_cons_zero, List.set_cons_succ]
            refine wpAnyH_take (i := 36) (oi := ⟨some 80, _, _, _, _, _⟩) (v := ?_) rfl (by kernel_rfl) (by kernel_rfl) (by kernel_rfl) (fun _ _ _ h => h) (Or.inl ⟨by kernel_rfl, ?_⟩) hH ?_
            rotate_left 1
            · intro wq hq; obtain ⟨r0, r3, r6, r7, r8⟩ := HRC.out wq hq.1; have re := HEC.out wq hq.2.2; have q1 : rowIs wq g10 66 = true := (by have := rowIs_of hq.2.1; rwa [hartA_size] at this); have q2 : rowOf wq g10 = hartA (F.take 66) := rowOf_of hq.2.1; clear hq; first | (go_simp; done) | (go_simp; with_reducible rfl)
            simp only [Act.put, List.setIfInBounds_toArray, List.set_cons_zero, List.set_cons_succ]
            refine wpAnyH_take (i := 37) (oi := ⟨some 81, _, _, _, _, _⟩) (v := ?_) rfl (by kernel_rfl) (by kernel_rfl) (by kernel_rfl) (fun _ _ _ h => h) (Or.inl ⟨by kernel_rfl, ?_⟩) hH ?_
            rotate_left 1
            · intro wq hq; obtain ⟨r0, r3, r6, r7, r8⟩ := HRC.out wq hq.1; have re := HEC.out wq hq.2.2; have q1 : rowIs wq g10 66 = true := (by have := rowIs_of hq.2.1; rwa [hartA_size] at this); have q2 : rowOf wq g10 = hartA (F.take 66) := rowOf_of hq.2.1; clear hq; first | (go_simp; done) | (go_simp; with_reducible rfl)
            simp only [Act.put, List.setIfInBounds_toArray, List.set_cons_zero, List.set_cons_succ]
            refine wpAnyH_take (i := 38) (oi := ⟨some 82, _, _, _, _, _⟩) (v := ?_) rfl (by kernel_rfl) (by kernel_rfl) (by kernel_rfl) (fun _ _ _ h => h) (Or.inl ⟨by kernel_rfl, ?_⟩) hH ?_
            rotate_left 1
            · intro wq hq; obtain ⟨r0, r3, r6, r7, r8⟩ := HRC.out wq hq.1; have re := HEC.out wq hq.2.2; have q1 : rowIs wq g10 66 = true := (by have := rowIs_of hq.2.1; rwa [hartA_size] at this); have q2 : rowOf wq g10 = hartA (F.take 66) := rowOf_of hq.2.1; clear hq; first | (go_simp; done) | (go_simp; with_reducible rfl)
            simp only [Act.put, List.setIfInBounds_toArray, List.set_cons_zero, List.set_cons_succ]
            refine wpAnyH_take (i := 39) (oi := ⟨some 83, _, _, _, _, _⟩) (v := ?_) rfl (by kernel_rfl) (by kernel_rfl) (by kernel_rfl) (fun _ _ _ h => h) (Or.inl ⟨by kernel_rfl, ?_⟩) hH ?_
            rotate_left 1
            · intro wq hq; obtain ⟨r0, r3, r6, r7, r8⟩ := HRC.out wq hq.1; have re := HEC.out wq hq.2.2; have q1 : rowIs wq g10 66 = true := (by have := rowIs_of hq.2.1; rwa [hartA_size] at this); have q2 : rowOf wq g10 = hartA (F.take 66) := rowOf_of hq.2.1; clear hq; first | (go_simp; done) | (go_simp; with_reducible rfl)
            simp only [Act.put, List.setIfInBounds_toArray, List.set_cons_zero, List.set_cons_succ]
            refine wpAnyH_take (i := 40) (oi := ⟨some 84, _, _, _, _, _⟩) (v := ?_) rfl (by kernel_rfl) (by kernel_rfl) (by kernel_rfl) (fun _ _ _ h => h) (Or.inl ⟨by kernel_rfl, ?_⟩) hH ?_
            rotate_left 1
            · intro wq hq; obtain ⟨r0, r3, r6, r7, r8⟩ := HRC.out wq hq.1; have re := HEC.out wq hq.2.2; have q1 : rowIs wq g10 66 = true := (by have := rowIs_of hq.2.1; rwa [hartA_size] at this); have q2 : rowOf wq g10 = hartA (F.take 66) := rowOf_of hq.2.1; clear hq; first | (go_simp; done) | (go_simp; with_reducible rfl)
            simp only [Act.put, List.setIfInBounds_toArray, List.set_cons_zero, List.set_cons_succ]
            refine wpAnyH_take (i := 41) (oi := ⟨some 85, _, _, _, _, _⟩) (v := ?_) rfl (by kernel_rfl) (by kernel_rfl) (by kernel_rfl) (fun _ _ _ h => h) (Or.inl ⟨by kernel_rfl, ?_⟩) hH ?_
            rotate_left 1
            · intro wq hq; obtain ⟨r0, r3, r6, r7, r8⟩ := HRC.out wq hq.1; have re := HEC.out wq hq.2.2; have q1 : rowIs wq g10 66 = true := (by have := rowIs_of hq.2.1; rwa [hartA_size] at this); have q2 : rowOf wq g10 = hartA (F.take 66) := rowOf_of hq.2.1; clear hq; first | (go_simp; done) | (go_simp; with_reducible rfl)
            simp only [Act.put, List.setIfInBounds_toArray, List.set_cons_zero, List.set_cons_succ]
            refine wpAnyH_take (i := 42) (oi := ⟨some 86, _, _, _, _, _⟩) (v := ?_) rfl (by kernel_rfl) (by kernel_rfl) (by kernel_rfl) (fun _ _ _ h => h) (Or.inl ⟨by kernel_rfl, ?_⟩) hH ?_
            rotate_left 1
            · intro wq hq; obtain ⟨r0, r3, r6, r7, r8⟩ := HRC.out wq hq.1; have re := HEC.out wq hq.2.2; have q1 : rowIs wq g10 66 = true := (by have := rowIs_of hq.2.1; rwa [hartA_size] at this); have q2 : rowOf wq g10 = hartA (F.take 66) := rowOf_of hq.2.1; clear hq; first | (go_simp; done) | (go_simp; with_reducible rfl)
            simp only [Act.put, List.setIfInBounds_toArray, List.set_cons_zero, List.set_cons_succ]
            refine wpAnyH_take (i := 43) (oi := ⟨some 87, _, _, _, _, _⟩) (v := ?_) rfl (by kernel_rfl) (by kernel_rfl) (by kernel_rfl) (fun _ _ _ h => h) (Or.inl ⟨by kernel_rfl, ?_⟩) hH ?_
            rotate_left 1
            · intro wq hq; obtain ⟨r0, r3, r6, r7, r8⟩ := HRC.out wq hq.1; have re := HEC.out wq hq.2.2; have q1 : rowIs wq g10 66 = true := (by have := rowIs_of hq.2.1; rwa [hartA_size] at this); have q2 : rowOf wq g10 = hartA (F.take 66) := rowOf_of hq.2.1; clear hq; first | (go_simp; done) | (go_simp; with_reducible rfl)
            simp only [Act.put, List.setIfInBounds_toArray, List.set_cons_zero, List.set_cons_succ]
            refine wpAnyH_take (i := 44) (oi := ⟨some 88, _, _, _, _, _⟩) (v := ?_) rfl (by kernel_rfl) (by kernel_rfl) (by kernel_rfl) (fun _ _ _ h => h) (Or.inl ⟨by kernel_rfl, ?_⟩) hH ?_
            rotate_left 1
            · intro wq hq; obtain ⟨r0, r3, r6, r7, r8⟩ := HRC.out wq hq.1; have re := HEC.out wq hq.2.2; have q1 : rowIs wq g10 66 = true := (by have := rowIs_of hq.2.1; rwa [hartA_size] at this); have q2 : rowOf wq g10 = hartA (F.take 66) := rowOf_of hq.2.1; clear hq; first | (go_simp; done) | (go_simp; with_reducible rfl)
            simp only [Act.put, List.setIfInBounds_toArray, List.set_cons_zero, List.set_cons_succ]
            refine wpAnyH_take (i := 45) (oi := ⟨some 89, _, _, _, _, _⟩) (v := ?_) rfl (by kernel_rfl) (by kernel_rfl) (by kernel_rfl) (fun _ _ _ h => h) (Or.inl ⟨by kernel_rfl, ?_⟩) hH ?_
            rotate_left 1
            · intro wq hq; obtain ⟨r0, r3, r6, r7, r8⟩ := HRC.out wq hq.1; have re := HEC.out wq hq.2.2; have q1 : rowIs wq g10 66 = true := (by have := rowIs_of hq.2.1; rwa [hartA_size] at this); have q2 : rowOf wq g10 = hartA (F.take 66) := rowOf_of hq.2.1; clear hq; first | (go_simp; done) | (go_simp; with_reducible rfl)
            simp only [Act.put, List.setIfInBounds_toArray, List.set_cons_zero, List.set_cons_succ]
            refine wpAnyH_take (i := 46) (oi := ⟨some 90, _, _, _, _, _⟩) (v := ?_) rfl (by kernel_rfl) (by kernel_rfl) (by kernel_rfl) (fun _ _ _ h => h) (Or.inl ⟨by kernel_rfl, ?_⟩) hH ?_
            rotate_left 1
            · intro wq hq; obtain ⟨r0, r3, r6, r7, r8⟩ := HRC.out wq hq.1; have re := HEC.out wq hq.2.2; have q1 : rowIs wq g10 66 = true := (by have := rowIs_of hq.2.1; rwa [hartA_size] at this); have q2 : rowOf wq g10 = hartA (F.take 66) := rowOf_of hq.2.1; clear hq; first | (go_simp; done) | (go_simp; with_reducible rfl)
            simp only [Act.put, List.setIfInBounds_toArray, List.set_cons_zero, List.set_cons_succ]
            refine wpAnyH_done (by kernel_rfl) ?_ _
            clear hH
            go_wp2_with fail
            refine wp_region_held_drew (S := fun wq => wq.heap[g9]? = some (.cells (recA (F.drop 66)) 30 (0, 0)) ∧ wq.heap[g10]? = some (.cells (hartA (F.take 66)) 43 (0, 0))) (by kernel_rfl) ⟨HREC9.out, HHA9.out⟩ (fun hH => ?_)
            refine wpAnyH_take (i := 0) (oi := ⟨some 91, _, _, _, _, _⟩) (v := ?_) rfl (by kernel_rfl) (by kernel_rfl) (by kernel_rfl) (fun _ _ _ h => h) (Or.inl ⟨by kernel_rfl, ?_⟩) hH ?_
            rotate_left 1
            · intro wq hq; obtain ⟨r0, r3, r6, r7, r8⟩ := HRC.out wq hq.1; clear hq; first | (go_simp; done) | (go_simp; with_reducible rfl)
            simp only [Act.put, List.setIfInBounds_toArray, List.set_cons_zero, List.set_cons_succ]
            refine wpAnyH_take (i := 1) (oi := ⟨some 92, _, _, _, _, _⟩) (v := ?_) rfl (by kernel_rfl) (by kernel_rfl) (by kernel_rfl) (fun _ _ _ h => h) (Or.inl ⟨by kernel_rfl, ?_⟩) hH ?_
            rotate_left 1
            · intro wq hq; obtain ⟨r0, r3, r6, r7, r8⟩ := HRC.out wq hq.1; clear hq; first | (go_simp; done) | (go_simp; with_reducible rfl)
            simp only [Act.put, List.setIfInBounds_toArray, List.set_cons_zero, List.set_cons_succ]
            refine wpAnyH_take (i := 2) (oi := ⟨some 93, _, _, _, _, _⟩) (v := ?_) rfl (by kernel_rfl) (by kernel_rfl) (by kernel_rfl) (fun _ _ _ h => h) (Or.inl ⟨by kernel_rfl, ?_⟩) hH ?_
            rotate_left 1
            · intro wq hq; obtain ⟨r0, r3, r6, r7, r8⟩ := HRC.out wq hq.1; clear hq; first | (go_simp; done) | (go_simp; with_reducible rfl)
            simp only [Act.put, List.setIfInBounds_toArray, List.set_cons_zero, List.set_cons_succ]
            refine wpAnyH_take (i := 3) (oi := ⟨some 94, _, _, _, _, _⟩) (v := ?_) rfl (by kernel_rfl) (by kernel_rfl) (by kernel_rfl) (fun _ _ _ h => h) (Or.inl ⟨by kernel_rfl, ?_⟩) hH ?_
            rotate_left 1
            · intro wq hq; obtain ⟨r0, r3, r6, r7, r8⟩ := HRC.out wq hq.1; clear hq; first | (go_simp; done) | (go_simp; with_reducible rfl)
            simp only [Act.put, List.setIfInBounds_toArray, List.set_cons_zero, List.set_cons_succ]
            refine wpAnyH_take (i := 4) (oi := ⟨some 95, _, _, _, _, _⟩) (v := undef) rfl (by kernel_rfl) (by kernel_rfl) (by kernel_rfl) (fun _ _ _ h => h) (Or.inr ⟨by kernel_rfl, rfl⟩) hH ?_
            simp only [Act.put, List.setIfInBounds_toArray, List.set_cons_zero, List.set_cons_succ]
            refine wpAnyH_take (i := 5) (oi := ⟨some 96, _, _, _, _, _⟩) (v := undef) rfl (by kernel_rfl) (by kernel_rfl) (by kernel_rfl) (fun _ _ _ h => h) (Or.inr ⟨by kernel_rfl, rfl⟩) hH ?_
            simp only [Act.put, List.setIfInBounds_toArray, List.set_cons_zero, List.set_cons_succ]
            refine wpAnyH_take (i := 6) (oi := ⟨some 97, _, _, _, _, _⟩) (v := undef) rfl (by kernel_rfl) (by kernel_rfl) (by kernel_rfl) (fun _ _ _ h => h) (Or.inr ⟨by kernel_rfl, rfl⟩) hH ?_
            simp only [Act.put, List.setIfInBounds_toArray, List.set_cons_zero, List.set_cons_succ]
            refine wpAnyH_take (i := 7) (oi := ⟨some 98, _, _, _, _, _⟩) (v := undef) rfl (by kernel_rfl) (by kernel_rfl) (by kernel_rfl) (fun _ _ _ h => h) (Or.inr ⟨by kernel_rfl, rfl⟩) hH ?_
            simp only [Act.put, List.setIfInBounds_toArray, List.set_cons_zero, List.set_cons_succ]
            refine wpAnyH_take (i := 8) (oi := ⟨some 99, _, _, _, _, _⟩) (v := undef) rfl (by kernel_rfl) (by kernel_rfl) (by kernel_rfl) (fun _ _ _ h => h) (Or.inr ⟨by kernel_rfl, rfl⟩) hH ?_
            simp only [Act.put, List.setIfInBounds_toArray, List.set_cons_zero, List.set_cons_succ]
            refine wpAnyH_take (i := 9) (oi := ⟨some 100, _, _, _, _, _⟩) (v := undef) rfl (by kernel_rfl) (by kernel_rfl) (by kernel_rfl) (fun _ _ _ h => h) (Or.inr ⟨by kernel_rfl, rfl⟩) hH ?_
            simp only [Act.put, List.setIfInBounds_toArray, List.set_cons_zero, List.set_cons_succ]
            refine wpAnyH_take (i := 10) (oi := ⟨some 101, _, _, _, _, _⟩) (v := undef) rfl (by kernel_rfl) (by kernel_rfl) (by kernel_rfl) (fun _ _ _ h => h) (Or.inr ⟨by kernel_rfl, rfl⟩) hH ?_
            simp only [Act.put, List.setIfInBounds_toArray, List.set_cons_zero, List.set_cons_succ]
            refine wpAnyH_take (i := 11) (oi := ⟨some 102, _, _, _, _, _⟩) (v := undef) rfl (by kernel_rfl) (by kernel_rfl) (by kernel_rfl) (fun _ _ _ h => h) (Or.inr ⟨by kernel_rfl, rfl⟩) hH ?_
            simp only [Act.put, List.setIfInBounds_toArray, List.set_cons_zero, List.set_cons_succ]
            refine wpAnyH_take (i := 12) (oi := ⟨some 103, _, _, _, _, _⟩) (v := ?_) rfl (by kernel_rfl) (by kernel_rfl) (by kernel_rfl) (fun _ _ _ h => h) (Or.inl ⟨by kernel_rfl, ?_⟩) hH ?_
            rotate_left 1
            · intro wq hq; obtain ⟨r0, r3, r6, r7, r8⟩ := HRC.out wq hq.1; clear hq; first | (go_simp; done) | (go_simp; with_reducible rfl)
            simp only [Act.put, List.setIfInBounds_toArray, List.set_cons_zero, List.set_cons_succ]
            refine wpAnyH_done (by kernel_rfl) ?_ _
            clear hH
            have HKD := Lib.hid (HK9.out.on (Below.refl _ _).drew)
            clear HREC9 HHA9 HK9 HRC HEC HSAY HRNG HE HEB HEV
            go_wp2_with fail
            exact ⟨⟨k + 1, S2, _, _, by omega, by omega, by rw [Int.natCast_succ], HKD.out⟩, by simp [intOf]; omega⟩
          · obtain rfl : TR = 0 := by have := HT.out; omega
            clear HT HT1
            by_cases hr0 : rd = 0
            · subst hr0
              obtain rfl : VA = 0 := HV0.out rfl
              clear HV0 HHX
              refine wp_region_held_drew (S := fun wq => wq.heap[g9]? = some (.cells (recA (F.drop 66)) 30 (0, 0)) ∧ wq.heap[g10]? = some (.cells (hartA (F.take 66)) 43 (0, 0)) ∧ wq.rangeAt eb (eo + k * 10) (cksV envC (evs k))) (by kernel_rfl) ⟨HREC8.out, HHA.out, HRNG.out _ HK8.out.below.drew⟩ (fun hH => ?_)
              refine wpAnyH_take (i := 0) (oi := ⟨some 44, _, _, _, _, _⟩) (v := ?_) rfl (by kernel_rfl) (by kernel_rfl) (by kernel_rfl) (fun _ _ _ h => h) (Or.inl ⟨by kernel_rfl, ?_⟩) hH ?_
              rotate_left 1
              · intro wq hq; obtain ⟨r0, r3, r6, r7, r8⟩ := HRC.out wq hq.1; have re := HEC.out wq hq.2.2; have q1 : rowIs wq g10 66 = true := (by have := rowIs_of hq.2.1; rwa [hartA_size] at this); have q2 : rowOf wq g10 = hartA (F.take 66) := rowOf_of hq.2.1; clear hq; first | (go_simp; done) | (go_simp; with_reducible rfl)
              simp only [Act.put, List.setIfInBounds_toArray, List.set_cons_zero, List.set_cons_succ]
              refine wpAnyH_ready (rs := [1]) (by kernel_rfl) (by simp) (AllReadyH.cons (o := ⟨some 45, _, _, _, _, _⟩) rfl (fun K hK => ?_) AllReadyH.nil)
              go_simp
              refine (HSAY.out _).mono ?_
              rintro e w9 ⟨rfl, hb⟩
              have HK9 := Lib.hid ((HK8.out.on (Below.refl _ _).drew).on hb)
              have HREC9 : Hid (w9.heap[g9]? = some (.cells (recA (F.drop 66)) 30 (0, 0))) := (hb.block _ (blk_lt HREC8.out)).trans HREC8.out
              have HHA9 : Hid (w9.heap[g10]? = some (.cells (hartA (F.take 66)) 43 (0, 0))) := (hb.block _ (blk_lt HHA.out)).trans HHA.out
              clear hb HK8 HREC8 HHA
              go_wp2_with fail
              refine hK.out _ _ ⟨HREC9.out, HHA9.out, HRNG.out _ HK9.out.below⟩ (fun hH => ?_)
              clear hK K
              try simp only [Act.put, List.setIfInBounds_toArray, List.set_cons_zero, List.set_cons_succ]
              refine wpAnyH_take (i := 2) (oi := ⟨some 46, _, _, _, _, _⟩) (v := ?_) rfl (by kernel_rfl) (by kernel_rfl) (by kernel_rfl) (fun _ _ _ h => h) (Or.inl ⟨by kernel_rfl, ?_⟩) hH ?_
              rotate_left 1
              · intro wq hq; obtain ⟨r0, r3, r6, r7, r8⟩ := HRC.out wq hq.1; have re := HEC.out wq hq.2.2; have q1 : rowIs wq g10 66 = true := (by have := rowIs_of hq.2.1; rwa [hartA_size] at this); have q2 : rowOf wq g10 = hartA (F.take 66) := rowOf_of hq.2.1; clear hq; first | (go_simp; done) | (go_simp; with_reducible rfl)
              simp only [Act.put, List.setIfInBounds_toArray, List.set_cons_zero, List.set_cons_succ]
              refine wpAnyH_take (i := 3) (oi := ⟨some 47, _, _, _, _, _⟩) (v := ?_) rfl (by kernel_rfl) (by kernel_rfl) (by kernel_rfl) (fun _ _ _ h => h) (Or.inl ⟨by kernel_rfl, ?_⟩) hH ?_
              rotate_left 1
              · intro wq hq; obtain ⟨r0, r3, r6, r7, r8⟩ := HRC.out wq hq.1; have re := HEC.out wq hq.2.2; have q1 : rowIs wq g10 66 = true := (by have := rowIs_of hq.2.1; rwa [hartA_size] at this); have q2 : rowOf wq g10 = hartA (F.take 66) := rowOf_of hq.2.1; clear hq; first | (go_simp; done) | (go_simp; with_reducible rfl)
              simp only [Act.put, List.setIfInBounds_toArray, List.set_cons_zero, List.set_cons_succ]
              refine wpAnyH_take (i := 4) (oi := ⟨some 48, _, _, _, _, _⟩) (v := ?_) rfl (by kernel_rfl) (by kernel_rfl) (by kernel_rfl) (fun _ _ _ h => h) (Or.inl ⟨by kernel_rfl, ?_⟩) hH ?_
              rotate_left 1
              · intro wq hq; obtain ⟨r0, r3, r6, r7, r8⟩ := HRC.out wq hq.1; have re := HEC.out wq hq.2.2; have q1 : rowIs wq g10 66 = true := (by have := rowIs_of hq.2.1; rwa [hartA_size] at this); have q2 : rowOf wq g10 = hartA (F.take 66) := rowOf_of hq.2.1; clear hq; first | (go_simp; done) | (go_simp; with_reducible rfl)
              simp only [Act.put, List.setIfInBounds_toArray, List.set_cons_zero, List.set_cons_succ]
              refine wpAnyH_take (i := 5) (oi := ⟨some 49, _, _, _, _, _⟩) (v := ?_) rfl (by kernel_rfl) (by kernel_rfl) (by kernel_rfl) (fun _ _ _ h => h) (Or.inl ⟨by kernel_rfl, ?_⟩) hH ?_
              rotate_left 1
              · intro wq hq; obtain ⟨r0, r3, r6, r7, r8⟩ := HRC.out wq hq.1; have re := HEC.out wq hq.2.2; have q1 : rowIs wq g10 66 = true := (by have := rowIs_of hq.2.1; rwa [hartA_size] at this); have q2 : rowOf wq g10 = hartA (F.take 66) := rowOf_of hq.2.1; clear hq; first | (go_simp; done) | (go_simp; with_reducible rfl)
              simp only [Act.put, List.setIfInBounds_toArray, List.set_cons_zero, List.set_cons_succ]
              refine wpAnyH_take (i := 6) (oi := ⟨some 50, _, _, _, _, _⟩) (v := ?_) rfl (by kernel_rfl) (by kernel_rfl) (by kernel_rfl) (fun _ _ _ h => h) (Or.inl ⟨by kernel_rfl, ?_⟩) hH ?_
              rotate_left 1
              · intro wq hq; obtain ⟨r0, r3, r6, r7, r8⟩ := HRC.out wq hq.1; have re := HEC.out wq hq.2.2; have q1 : rowIs wq g10 66 = true := (by have := rowIs_of hq.2.1; rwa [hartA_size] at this); have q2 : rowOf wq g10 = hartA (F.take 66) := rowOf_of hq.2.1; clear hq; first | (go_simp; done) | (go_simp; with_reducible rfl)
              simp only [Act.put, List.setIfInBounds_toArray, List.set_cons_zero, List.set_cons_succ]
              refine wpAnyH_take (i := 7) (oi := ⟨some 51, _, _, _, _, _⟩) (v := ?_) rfl (by kernel_rfl) (by kernel_rfl) (by kernel_rfl) (fun _ _ _ h => h) (Or.inl ⟨by kernel_rfl, ?_⟩) hH ?_
              rotate_left 1
              · intro wq hq; obtain ⟨r0, r3, r6, r7, r8⟩ := HRC.out wq hq.1; have re := HEC.out wq hq.2.2; have q1 : rowIs wq g10 66 = true := (by have := rowIs_of hq.2.1; rwa [hartA_size] at this); have q2 : rowOf wq g10 = hartA (F.take 66) := rowOf_of hq.2.1; clear hq; first | (go_simp; done) | (go_simp; with_reducible rfl)
              simp only [Act.put, List.setIfInBounds_toArray, List.set_cons_zero, List.set_cons_succ]
              refine wpAnyH_take (i := 8) (oi := ⟨some 52, _, _, _, _, _⟩) (v := ?_) rfl (by kernel_rfl) (by kernel_rfl) (by kernel_rfl) (fun _ _ _ h => h) (Or.inl ⟨by kernel_rfl, ?_⟩) hH ?_
              rotate_left 1
              · intro wq hq; obtain ⟨r0, r3, r6, r7, r8⟩ := HRC.out wq hq.1; have re := HEC.out wq hq.2.2; have q1 : rowIs wq g10 66 = true := (by have := rowIs_of hq.2.1; rwa [hartA_size] at this); have q2 : rowOf wq g10 = hartA (F.take 66) := rowOf_of hq.2.1; clear hq; first | (go_simp; done) | (go_simp; with_reducible rfl)
              simp only [Act.put, List.setIfInBounds_toArray, List.set_cons_zero, List.set_cons_succ]
              refine wpAnyH_take (i := 9) (oi := ⟨some 53, _, _, _, _, _⟩) (v := ?_) rfl (by kernel_rfl) (by kernel_rfl) (by kernel_rfl) (fun _ _ _ h => h) (Or.inl ⟨by kernel_rfl, ?_⟩) hH ?_
              rotate_left 1
              · intro wq hq; obtain ⟨r0, r3, r6, r7, r8⟩ := HRC.out wq hq.1; have re := HEC.out wq hq.2.2; have q1 : rowIs wq g10 66 = true := (by have := rowIs_of hq.2.1; rwa [hartA_size] at this); have q2 : rowOf wq g10 = hartA (F.take 66) := rowOf_of hq.2.1; clear hq; first | (go_simp; done) | (go_simp; with_reducible rfl)
              simp only [Act.put, List.setIfInBounds_toArray, List.set_cons_zero, List.set_cons_succ]
              refine wpAnyH_take (i := 10) (oi := ⟨some 54, _, _, _, _, _⟩) (v := ?_) rfl (by kernel_rfl) (by kernel_rfl) (by kernel_rfl) (fun _ _ _ h => h) (Or.inl ⟨by kernel_rfl, ?_⟩) hH ?_
              rotate_left 1
              · intro wq hq; obtain ⟨r0, r3, r6, r7, r8⟩ := HRC.out wq hq.1; have re := HEC.out wq hq.2.2; have q1 : rowIs wq g10 66 = true := (by have := rowIs_of hq.2.1; rwa [hartA_size] at this); have q2 : rowOf wq g10 = hartA (F.take 66) := rowOf_of hq.2.1; clear hq; first | (go_simp; done) | (go_simp; with_reducible rfl)
              simp only [Act.put, List.setIfInBounds_toArray, List.set_cons_zero, List.set_cons_succ]
              refine wpAnyH_take (i := 11) (oi := ⟨some 55, _, _, _, _, _⟩) (v := ?_) rfl (by kernel_rfl) (by kernel_rfl) (by kernel_rfl) (fun _ _ _ h => h) (Or.inl ⟨by kernel_rfl, ?_⟩) hH ?_
              rotate_left 1
              · intro wq hq; obtain ⟨r0, r3, r6, r7, r8⟩ := HRC.out wq hq.1; have re := HEC.out wq hq.2.2; have q1 : rowIs wq g10 66 = true := (by have := rowIs_of hq.2.1; rwa [hartA_size] at this); have q2 : rowOf wq g10 = hartA (F.take 66) := rowOf_of hq.2.1; clear hq; first | (go_simp; done) | (go_simp; with_reducible rfl)
              simp only [Act.put, List.setIfInBounds_toArray, List.set_cons_zero, List.set_cons_succ]
              refine wpAnyH_take (i := 12) (oi := ⟨some 56, _, _, _, _, _⟩) (v := ?_) rfl (by kernel_rfl) (by kernel_rfl) (by kernel_rfl) (fun _ _ _ h => h) (Or.inl ⟨by kernel_rfl, ?_⟩) hH ?_
              rotate_left 1
              · intro wq hq; obtain ⟨r0, r3, r6, r7, r8⟩ := HRC.out wq hq.1; have re := HEC.out wq hq.2.2; have q1 : rowIs wq g10 66 = true := (by have := rowIs_of hq.2.1; rwa [hartA_size] at this); have q2 : rowOf wq g10 = hartA (F.take 66) := rowOf_of hq.2.1; clear hq; first | (go_simp; done) | (go_simp; with_reducible rfl)
              simp only [Act.put, List.setIfInBounds_toArray, List.set_cons_zero, List.set_cons_succ]
              refine wpAnyH_take (i := 13) (oi := ⟨some 57, _, _, _, _, _⟩) (v := ?_) rfl (by kernel_rfl) (by kernel_rfl) (by kernel_rfl) (fun _ _ _ h => h) (Or.inl ⟨by kernel_rfl, ?_⟩) hH ?_
              rotate_left 1
              · intro wq hq; obtain ⟨r0, r3, r6, r7, r8⟩ := HRC.out wq hq.1; have re := HEC.out wq hq.2.2; have q1 : rowIs wq g10 66 = true := (by have := rowIs_of hq.2.1; rwa [hartA_size] at this); have q2 : rowOf wq g10 = hartA (F.take 66) := rowOf_of hq.2.1; clear hq; first | (go_simp; done) | (go_simp; with_reducible rfl)
              simp only [Act.put, List.setIfInBounds_toArray, List.set_cons_zero, List.set_cons_succ]
              refine wpAnyH_take (i := 14) (oi := ⟨some 58, _, _, _, _, _⟩) (v := ?_) rfl (by kernel_rfl) (by kernel_rfl) (by kernel_rfl) (fun _ _ _ h => h) (Or.inl ⟨by kernel_rfl, ?_⟩) hH ?_
              rotate_left 1
              · intro wq hq; obtain ⟨r0, r3, r6, r7, r8⟩ := HRC.out wq hq.1; have re := HEC.out wq hq.2.2; have q1 : rowIs wq g10 66 = true := (by have := rowIs_of hq.2.1; rwa [hartA_size] at this); have q2 : rowOf wq g10 = hartA (F.take 66) := rowOf_of hq.2.1; clear hq; first | (go_simp; done) | (go_simp; with_reducible rfl)
              simp only [Act.put, List.setIfInBounds_toArray, List.set_cons_zero, List.set_cons_succ]
              refine wpAnyH_take (i := 15) (oi := ⟨some 59, _, _, _, _, _⟩) (v := ?_) rfl (by kernel_rfl) (by kernel_rfl) (by kernel_rfl) (fun _ _ _ h => h) (Or.inl ⟨by kernel_rfl, ?_⟩) hH ?_
              rotate_left 1
              · intro wq hq; obtain ⟨r0, r3, r6, r7, r8⟩ := HRC.out wq hq.1; have re := HEC.out wq hq.2.2; have q1 : rowIs wq g10 66 = true := (by have := rowIs_of hq.2.1; rwa [hartA_size] at this); have q2 : rowOf wq g10 = hartA (F.take 66) := rowOf_of hq.2.1; clear hq; first | (go_simp; done) | (go_simp; with_reducible rfl)
              simp only [Act.put, List.setIfInBounds_toArray, List.set_cons_zero, List.set_cons_succ]
              refine wpAnyH_take (i := 16) (oi := ⟨some 60, _, _, _, _, _⟩) (v := ?_) rfl (by kernel_rfl) (by kernel_rfl) (by kernel_rfl) (fun _ _ _ h => h) (Or.inl ⟨by kernel_rfl, ?_⟩) hH ?_
              rotate_left 1
              · intro wq hq; obtain ⟨r0, r3, r6, r7, r8⟩ := HRC.out wq hq.1; have re := HEC.out wq hq.2.2; have q1 : rowIs wq g10 66 = true := (by have := rowIs_of hq.2.1; rwa [hartA_size] at this); have q2 : rowOf wq g10 = hartA (F.take 66) := rowOf_of hq.2.1; clear hq; first | (go_simp; done) | (go_simp; with_reducible rfl)
              simp only [Act.put, List.setIfInBounds_toArray, List.set_cons_zero, List.set_cons_succ]
              refine wpAnyH_take (i := 17) (oi := ⟨some 61, _, _, _, _, _⟩) (v := ?_) rfl (by kernel_rfl) (by kernel_rfl) (by kernel_rfl) (fun _ _ _ h => h) (Or.inl ⟨by kernel_rfl, ?_⟩) hH ?_
              rotate_left 1
              · intro wq hq; obtain ⟨r0, r3, r6, r7, r8⟩ := HRC.out wq hq.1; have re := HEC.out wq hq.2.2; have q1 : rowIs wq g10 66 = true := (by have := rowIs_of hq.2.1; rwa [hartA_size] at this); have q2 : rowOf wq g10 = hartA (F.take 66) := rowOf_of hq.2.1; clear hq; first | (go_simp; done) | (go_simp; with_reducible rfl)
              simp only [Act.put, List.setIfInBounds_toArray, List.set_cons_zero, List.set_cons_succ]
              refine wpAnyH_take (i := 18) (oi := ⟨some 62, _, _, _, _, _⟩) (v := ?_) rfl (by kernel_rfl) (by kernel_rfl) (by kernel_rfl) (fun _ _ _ h => h) (Or.inl ⟨by kernel_rfl, ?_⟩) hH ?_
              rotate_left 1
              · intro wq hq; obtain ⟨r0, r3, r6, r7, r8⟩ := HRC.out wq hq.1; have re := HEC.out wq hq.2.2; have q1 : rowIs wq g10 66 = true := (by have := rowIs_of hq.2.1; rwa [hartA_size] at this); have q2 : rowOf wq g10 = hartA (F.take 66) := rowOf_of hq.2.1; clear hq; first | (go_simp; done) | (go_simp; with_reducible rfl)
              simp only [Act.put, List.setIfInBounds_toArray, List.set_cons_zero, List.set_cons_succ]
              refine wpAnyH_take (i := 19) (oi := ⟨some 63, _, _, _, _, _⟩) (v := ?_) rfl (by kernel_rfl) (by kernel_rfl) (by kernel_rfl) (fun _ _ _ h => h) (Or.inl ⟨by kernel_rfl, ?_⟩) hH ?_
              rotate_left 1
              · intro wq hq; obtain ⟨r0, r3, r6, r7, r8⟩ := HRC.out wq hq.1; have re := HEC.out wq hq.2.2; have q1 : rowIs wq g10 66 = true := (by have := rowIs_of hq.2.1; rwa [hartA_size] at this); have q2 : rowOf wq g10 = hartA (F.take 66) := rowOf_of hq.2.1; clear hq; first | (go_simp; done) | (go_simp; with_reducible rfl)
              simp only [Act.put, List.setIfInBounds_toArray, List.set_cons_zero, List.set_cons_succ]
              refine wpAnyH_take (i := 20) (oi := ⟨some 64, _, _, _, _, _⟩) (v := ?_) rfl (by kernel_rfl) (by kernel_rfl) (by kernel_rfl) (fun _ _ _ h => h) (Or.inl ⟨by kernel_rfl, ?_⟩) hH ?_
              rotate_left 1
              · intro wq hq; obtain ⟨r0, r3, r6, r7, r8⟩ := HRC.out wq hq.1; have re := HEC.out wq hq.2.2; have q1 : rowIs wq g10 66 = true := (by have := rowIs_of hq.2.1; rwa [hartA_size] at this); have q2 : rowOf wq g10 = hartA (F.take 66) := rowOf_of hq.2.1; clear hq; first | (go_simp; done) | (go_simp; with_reducible rfl)
              simp only [Act.put, List.setIfInBounds_toArray, List.set_cons_zero, List.set_cons_succ]
              refine wpAnyH_take (i := 21) (oi := ⟨some 65, _, _, _, _, _⟩) (v := ?_) rfl (by kernel_rfl) (by kernel_rfl) (by kernel_rfl) (fun _ _ _ h => h) (Or.inl ⟨by kernel_rfl, ?_⟩) hH ?_
              rotate_left 1
              · intro wq hq; obtain ⟨r0, r3, r6, r7, r8⟩ := HRC.out wq hq.1; have re := HEC.out wq hq.2.2; have q1 : rowIs wq g10 66 = true := (by have := rowIs_of hq.2.1; rwa [hartA_size] at this); have q2 : rowOf wq g10 = hartA (F.take 66) := rowOf_of hq.2.1; clear hq; first | (go_simp; done) | (go_simp; with_reducible rfl)
              simp only [Act.put, List.setIfInBounds_toArray, List.set_cons_zero, List.set_cons_succ]
              refine wpAnyH_take (i := 22) (oi := ⟨some 66, _, _, _, _, _⟩) (v := ?_) rfl (by kernel_rfl) (by kernel_rfl) (by kernel_rfl) (fun _ _ _ h => h) (Or.inl ⟨by kernel_rfl, ?_⟩) hH ?_
              rotate_left 1
              · intro wq hq; obtain ⟨r0, r3, r6, r7, r8⟩ := HRC.out wq hq.1; have re := HEC.out wq hq.2.2; have q1 : rowIs wq g10 66 = true := (by have := rowIs_of hq.2.1; rwa [hartA_size] at this); have q2 : rowOf wq g10 = hartA (F.take 66) := rowOf_of hq.2.1; clear hq; first | (go_simp; done) | (go_simp; with_reducible rfl)
              simp only [Act.put, List.setIfInBounds_toArray, List.set_cons_zero, List.set_cons_succ]
              refine wpAnyH_take (i := 23) (oi := ⟨some 67, _, _, _, _, _⟩) (v := ?_) rfl (by kernel_rfl) (by kernel_rfl) (by kernel_rfl) (fun _ _ _ h => h) (Or.inl ⟨by kernel_rfl, ?_⟩) hH ?_
              rotate_left 1
              · intro wq hq; obtain ⟨r0, r3, r6, r7, r8⟩ := HRC.out wq hq.1; have re := HEC.out wq hq.2.2; have q1 : rowIs wq g10 66 = true := (by have := rowIs_of hq.2.1; rwa [hartA_size] at this); have q2 : rowOf wq g10 = hartA (F.take 66) := rowOf_of hq.2.1; clear hq; first | (go_simp; done) | (go_simp; with_reducible rfl)
              simp only [Act.put, List.setIfInBounds_toArray, List.set_cons_zero, List.set_cons_succ]
              refine wpAnyH_take (i := 24) (oi := ⟨some 68, _, _, _, _, _⟩) (v := ?_) rfl (by kernel_rfl) (by kernel_rfl) (by kernel_rfl) (fun _ _ _ h => h) (Or.inl ⟨by kernel_rfl, ?_⟩) hH ?_
              rotate_left 1
              · intro wq hq; obtain ⟨r0, r3, r6, r7, r8⟩ := HRC.out wq hq.1; have re := HEC.out wq hq.2.2; have q1 : rowIs wq g10 66 = true := (by have := rowIs_of hq.2.1; rwa [hartA_size] at this); have q2 : rowOf wq g10 = hartA (F.take 66) := rowOf_of hq.2.1; clear hq; first | (go_simp; done) | (go_simp; with_reducible rfl)
              simp only [Act.put, List.setIfInBounds_toArray, List.set_cons_zero, List.set_cons_succ]
              refine wpAnyH_take (i := 25) (oi := ⟨some 69, _, _, _, _, _⟩) (v := ?_) rfl (by kernel_rfl) (by kernel_rfl) (by kernel_rfl) (fun _ _ _ h => h) (Or.inl ⟨by kernel_rfl, ?_⟩) hH ?_
              rotate_left 1
              · intro wq hq; obtain ⟨r0, r3, r6, r7, r8⟩ := HRC.out wq hq.1; have re := HEC.out wq hq.2.2; have q1 : rowIs wq g10 66 = true := (by have := rowIs_of hq.2.1; rwa [hartA_size] at this); have q2 : rowOf wq g10 = hartA (F.take 66) := rowOf_of hq.2.1; clear hq; first | (go_simp; done) | (go_simp; with_reducible rfl)
              simp only [Act.put, List.setIfInBounds_toArray, List.set_cons_zero, List.set_cons_succ]
              refine wpAnyH_take (i := 26) (oi := ⟨some 70, _, _, _, _, _⟩) (v := ?_) rfl (by kernel_rfl) (by kernel_rfl) (by kernel_rfl) (fun _ _ _ h => h) (Or.inl ⟨by kernel_rfl, ?_⟩) hH ?_
              rotate_left 1
              · intro wq hq; obtain ⟨r0, r3, r6, r7, r8⟩ := HRC.out wq hq.1; have re := HEC.out wq hq.2.2; have q1 : rowIs wq g10 66 = true := (by have := rowIs_of hq.2.1; rwa [hartA_size] at this); have q2 : rowOf wq g10 = hartA (F.take 66) := rowOf_of hq.2.1; clear hq; first | (go_simp; done) | (go_simp; with_reducible rfl)
              simp only [Act.put, List.setIfInBounds_toArray, List.set_cons_zero, List.set_cons_succ]
              refine wpAnyH_take (i := 27) (oi := ⟨some 71, _, _, _, _, _⟩) (v := undef) rfl (by kernel_rfl) (by kernel_rfl) (by kernel_rfl) (fun _ _ _ h => h) (Or.inr ⟨by kernel_rfl, rfl⟩) hH ?_
              simp only [Act.put, List.setIfInBounds_toArray, List.set_cons_zero, List.set_cons_succ]
              refine wpAnyH_take (i := 28) (oi := ⟨some 72, _, _, _, _, _⟩) (v := undef) rfl (by kernel_rfl) (by kernel_rfl) (by kernel_rfl) (fun _ _ _ h => h) (Or.inr ⟨by kernel_rfl, rfl⟩) hH ?_
              simp only [Act.put, List.setIfInBounds_toArray, List.set_cons_zero, List.set_cons_succ]
              refine wpAnyH_take (i := 29) (oi := ⟨some 73, _, _, _, _, _⟩) (v := undef) rfl (by kernel_rfl) (by kernel_rfl) (by kernel_rfl) (fun _ _ _ h => h) (Or.inr ⟨by kernel_rfl, rfl⟩) hH ?_
              simp only [Act.put, List.setIfInBounds_toArray, List.set_cons_zero, List.set_cons_succ]
              refine wpAnyH_take (i := 30) (oi := ⟨some 74, _, _, _, _, _⟩) (v := undef) rfl (by kernel_rfl) (by kernel_rfl) (by kernel_rfl) (fun _ _ _ h => h) (Or.inr ⟨by kernel_rfl, rfl⟩) hH ?_
              simp only [Act.put, List.setIfInBounds_toArray, List.set_cons_zero, List.set_cons_succ]
              refine wpAnyH_take (i := 31) (oi := ⟨some 75, _, _, _, _, _⟩) (v := undef) rfl (by kernel_rfl) (by kernel_rfl) (by kernel_rfl) (fun _ _ _ h => h) (Or.inr ⟨by kernel_rfl, rfl⟩) hH ?_
              simp only [Act.put, List.setIfInBounds_toArray, List.set_cons_zero, List.set_cons_succ]
              refine wpAnyH_take (i := 32) (oi := ⟨some 76, _, _, _, _, _⟩) (v := undef) rfl (by kernel_rfl) (by kernel_rfl) (by kernel_rfl) (fun _ _ _ h => h) (Or.inr ⟨by kernel_rfl, rfl⟩) hH ?_
              simp only [Act.put, List.setIfInBounds_toArray, List.set_cons_zero, List.set_cons_succ]
              refine wpAnyH_take (i := 33) (oi := ⟨some 77, _, _, _, _, _⟩) (v := undef) rfl (by kernel_rfl) (by kernel_rfl) (by kernel_rfl) (fun _ _ _ h => h) (Or.inr ⟨by kernel_rfl, rfl⟩) hH ?_
              simp only [Act.put, List.setIfInBounds_toArray, List.set_cons_zero, List.set_cons_succ]
              refine wpAnyH_take (i := 34) (oi := ⟨some 78, _, _, _, _, _⟩) (v := undef) rfl (by kernel_rfl) (by kernel_rfl) (by kernel_rfl) (fun _ _ _ h => h) (Or.inr ⟨by kernel_rfl, rfl⟩) hH ?_
              simp only [Act.put, List.setIfInBounds_toArray, List.set_cons_zero, List.set_cons_succ]
              refine wpAnyH_take (i := 35) (oi := ⟨some 79, _, _, _, _, _⟩) (v := ?_) rfl (by kernel_rfl) (by kernel_rfl) (by kernel_rfl) (fun _ _ _ h => h) (Or.inl ⟨by kernel_rfl, ?_⟩) hH ?_
              rotate_left 1
              · intro wq hq; obtain ⟨r0, r3, r6, r7, r8⟩ := HRC.out wq hq.1; have re := HEC.out wq hq.2.2; have q1 : rowIs wq g10 66 = true := (by have := rowIs_of hq.2.1; rwa [hartA_size] at this); have q2 : rowOf wq g10 = hartA (F.take 66) := rowOf_of hq.2.1; clear hq; first | (go_simp; done) | (go_simp; with_reducible rfl)
              simp only [Act.put, List.setIfInBounds_toArray, List.set_cons_zero, List.set_cons_succ]
              refine wpAnyH_take (i := 36) (oi := ⟨some 80, _, _, _, _, _⟩) (v := ?_) rfl (by kernel_rfl) (by kernel_rfl) (by kernel_rfl) (fun _ _ _ h => h) (Or.inl ⟨by kernel_rfl, ?_⟩) hH ?_
              rotate_left 1
              · intro wq hq; obtain ⟨r0, r3, r6, r7, r8⟩ := HRC.out wq hq.1; have re := HEC.out wq hq.2.2; have q1 : rowIs wq g10 66 = true := (by have := rowIs_of hq.2.1; rwa [hartA_size] at this); have q2 : rowOf wq g10 = hartA (F.take 66) := rowOf_of hq.2.1; clear hq; first | (go_simp; done) | (go_simp; with_reducible rfl)
              simp only [Act.put, List.setIfInBounds_toArray, List.set_cons_zero, List.set_cons_succ]
              refine wpAnyH_take (i := 37) (oi := ⟨some 81, _, _, _, _, _⟩) (v := ?_) rfl (by kernel_rfl) (by kernel_rfl) (by kernel_rfl) (fun _ _ _ h => h) (Or.inl ⟨by kernel_rfl, ?_⟩) hH ?_
              rotate_left 1
              · intro wq hq; obtain ⟨r0, r3, r6, r7, r8⟩ := HRC.out wq hq.1; have re := HEC.out wq hq.2.2; have q1 : rowIs wq g10 66 = true := (by have := rowIs_of hq.2.1; rwa [hartA_size] at this); have q2 : rowOf wq g10 = hartA (F.take 66) := rowOf_of hq.2.1; clear hq; first | (go_simp; done) | (go_simp; with_reducible rfl)
              simp only [Act.put, List.setIfInBounds_toArray, List.set_cons_zero, List.set_cons_succ]
              refine wpAnyH_take (i := 38) (oi := ⟨some 82, _, _, _, _, _⟩) (v := ?_) rfl (by kernel_rfl) (by kernel_rfl) (by kernel_rfl) (fun _ _ _ h => h) (Or.inl ⟨by kernel_rfl, ?_⟩) hH ?_
              rotate_left 1
              · intro wq hq; obtain ⟨r0, r3, r6, r7, r8⟩ := HRC.out wq hq.1; have re := HEC.out wq hq.2.2; have q1 : rowIs wq g10 66 = true := (by have := rowIs_of hq.2.1; rwa [hartA_size] at this); have q2 : rowOf wq g10 = hartA (F.take 66) := rowOf_of hq.2.1; clear hq; first | (go_simp; done) | (go_simp; with_reducible rfl)
              simp only [Act.put, List.setIfInBounds_toArray, List.set_cons_zero, List.set_cons_succ]
              refine wpAnyH_take (i := 39) (oi := ⟨some 83, _, _, _, _, _⟩) (v := ?_) rfl (by kernel_rfl) (by kernel_rfl) (by kernel_rfl) (fun _ _ _ h => h) (Or.inl ⟨by kernel_rfl, ?_⟩) hH ?_
              rotate_left 1
              · intro wq hq; obtain ⟨r0, r3, r6, r7, r8⟩ := HRC.out wq hq.1; have re := HEC.out wq hq.2.2; have q1 : rowIs wq g10 66 = true := (by have := rowIs_of hq.2.1; rwa [hartA_size] at this); have q2 : rowOf wq g10 = hartA (F.take 66) := rowOf_of hq.2.1; clear hq; first | (go_simp; done) | (go_simp; with_reducible rfl)
              simp only [Act.put, List.setIfInBounds_toArray, List.set_cons_zero, List.set_cons_succ]
              refine wpAnyH_take (i := 40) (oi := ⟨some 84, _, _, _, _, _⟩) (v := ?_) rfl (by kernel_rfl) (by kernel_rfl) (by kernel_rfl) (fun _ _ _ h => h) (Or.inl ⟨by kernel_rfl, ?_⟩) hH ?_
              rotate_left 1
              · intro wq hq; obtain ⟨r0, r3, r6, r7, r8⟩ := HRC.out wq hq.1; have re := HEC.out wq hq.2.2; have q1 : rowIs wq g10 66 = true := (by have := rowIs_of hq.2.1; rwa [hartA_size] at this); have q2 : rowOf wq g10 = hartA (F.take 66) := rowOf_of hq.2.1; clear hq; first | (go_simp; done) | (go_simp; with_reducible rfl)
              simp only [Act.put, List.setIfInBounds_toArray, List.set_cons_zero, List.set_cons_succ]
              refine wpAnyH_take (i := 41) (oi := ⟨some 85, _, _, _, _, _⟩) (v := ?_) rfl (by kernel_rfl) (by kernel_rfl) (by kernel_rfl) (fun _ _ _ h => h) (Or.inl ⟨by kernel_rfl, ?_⟩) hH ?_
              rotate_left 1
              · intro wq hq; obtain ⟨r0, r3, r6, r7, r8⟩ := HRC.out wq hq.1; have re := HEC.out wq hq.2.2; have q1 : rowIs wq g10 66 = true := (by have := rowIs_of hq.2.1; rwa [hartA_size] at this); have q2 : rowOf wq g10 = hartA (F.take 66) := rowOf_of hq.2.1; clear hq; first | (go_simp; done) | (go_simp; with_reducible rfl)
              simp only [Act.put, List.setIfInBounds_toArray, List.set_cons_zero, List.set_cons_succ]
              refine wpAnyH_take (i := 42) (oi := ⟨some 86, _, _, _, _, _⟩) (v := ?_) rfl (by kernel_rfl) (by kernel_rfl) (by kernel_rfl) (fun _ _ _ h => h) (Or.inl ⟨by kernel_rfl, ?_⟩) hH ?_
              rotate_left 1
              · intro wq hq; obtain ⟨r0, r3, r6, r7, r8⟩ := HRC.out wq hq.1; have re := HEC.out wq hq.2.2; have q1 : rowIs wq g10 66 = true := (by have := rowIs_of hq.2.1; rwa [hartA_size] at this); have q2 : rowOf wq g10 = hartA (F.take 66) := rowOf_of hq.2.1; clear hq; first | (go_simp; done) | (go_simp; with_reducible rfl)
              simp only [Act.put, List.setIfInBounds_toArray, List.set_cons_zero, List.set_cons_succ]
              refine wpAnyH_take (i := 43) (oi := ⟨some 87, _, _, _, _, _⟩) (v := ?_) rfl (by kernel_rfl) (by kernel_rfl) (by kernel_rfl) (fun _ _ _ h => h) (Or.inl ⟨by kernel_rfl, ?_⟩) hH ?_
              rotate_left 1
              · intro wq hq; obtain ⟨r0, r3, r6, r7, r8⟩ := HRC.out wq hq.1; have re := HEC.out wq hq.2.2; have q1 : rowIs wq g10 66 = true := (by have := rowIs_of hq.2.1; rwa [hartA_size] at this); have q2 : rowOf wq g10 = hartA (F.take 66) := rowOf_of hq.2.1; clear hq; first | (go_simp; done) | (go_simp; with_reducible rfl)
              simp only [Act.put, List.setIfInBounds_toArray, List.set_cons_zero, List.set_cons_succ]
              refine wpAnyH_take (i := 44) (oi := ⟨some 88, _, _, _, _, _⟩) (v := ?_) rfl (by kernel_rfl) (by kernel_rfl) (by kernel_rfl) (fun _ _ _ h => h) (Or.inl ⟨by kernel_rfl, ?_⟩) hH ?_
              rotate_left 1
              · intro wq hq; obtain ⟨r0, r3, r6, r7, r8⟩ := HRC.out wq hq.1; have re := HEC.out wq hq.2.2; have q1 : rowIs wq g10 66 = true := (by have := rowIs_of hq.2.1; rwa [hartA_size] at this); have q2 : rowOf wq g10 = hartA (F.take 66) := rowOf_of hq.2.1; clear hq; first | (go_simp; done) | (go_simp; with_reducible rfl)
              simp only [Act.put, List.setIfInBounds_toArray, List.set_cons_zero, List.set_cons_succ]
              refine wpAnyH_take (i := 45) (oi := ⟨some 89, _, _, _, _, _⟩) (v := ?_) rfl (by kernel_rfl) (by kernel_rfl) (by kernel_rfl) (fun _ _ _ h => h) (Or.inl ⟨by kernel_rfl, ?_⟩) hH ?_
              rotate_left 1
              · intro wq hq; obtain ⟨r0, r3, r6, r7, r8⟩ := HRC.out wq hq.1; have re := HEC.out wq hq.2.2; have q1 : rowIs wq g10 66 = true := (by have := rowIs_of hq.2.1; rwa [hartA_size] at this); have q2 : rowOf wq g10 = hartA (F.take 66) := rowOf_of hq.2.1; clear hq; first | (go_simp; done) | (go_simp; with_reducible rfl)
              simp only [Act.put, List.setIfInBounds_toArray, List.set_cons_zero, List.set_cons_succ]
              refine wpAnyH_take (i := 46) (oi := ⟨some 90, _, _, _, _, _⟩) (v := ?_) rfl (by kernel_rfl) (by kernel_rfl) (by kernel_rfl) (fun _ _ _ h => h) (Or.inl ⟨by kernel_rfl, ?_⟩) hH ?_
              rotate_left 1
              · intro wq hq; obtain ⟨r0, r3, r6, r7, r8⟩ := HRC.out wq hq.1; have re := HEC.out wq hq.2.2; have q1 : rowIs wq g10 66 = true := (by have := rowIs_of hq.2.1; rwa [hartA_size] at this); have q2 : rowOf wq g10 = hartA (F.take 66) := rowOf_of hq.2.1; clear hq; first | (go_simp; done) | (go_simp; with_reducible rfl)
              simp only [Act.put, List.setIfInBounds_toArray, List.set_cons_zero, List.set_cons_succ]
              refine wpAnyH_done (by kernel_rfl) ?_ _
              clear hH
              go_wp2_with fail
              refine wp_region_held_drew (S := fun wq => wq.heap[g9]? = some (.cells (recA (F.drop 66)) 30 (0, 0)) ∧ wq.heap[g10]? = some (.cells (hartA (F.take 66)) 43 (0, 0))) (by kernel_rfl) ⟨HREC9.out, HHA9.out⟩ (fun hH => ?_)
              refine wpAnyH_take (i := 0) (oi := ⟨some 91, _, _, _, _, _⟩) (v := ?_) rfl (by kernel_rfl) (by kernel_rfl) (by kernel_rfl) (fun _ _ _ h => h) (Or.inl ⟨by kernel_rfl, ?_⟩) hH ?_
              rotate_left 1
              · intro wq hq; obtain ⟨r0, r3, r6, r7, r8⟩ := HRC.out wq hq.1; clear hq; first | (go_simp; done) | (go_simp; with_reducible rfl)
              simp only [Act.put, List.setIfInBounds_toArray, List.set_cons_zero, List.set_cons_succ]
              refine wpAnyH_take (i := 1) (oi := ⟨some 92, _, _, _, _, _⟩) (v := ?_) rfl (by kernel_rfl) (by kernel_rfl) (by kernel_rfl) (fun _ _ _ h => h) (Or.inl ⟨by kernel_rfl, ?_⟩) hH ?_
              rotate_left 1
              · intro wq hq; obtain ⟨r0, r3, r6, r7, r8⟩ := HRC.out wq hq.1; clear hq; first | (go_simp; done) | (go_simp; with_reducible rfl)
              simp only [Act.put, List.setIfInBounds_toArray, List.set_cons_zero, List.set_cons_succ]
              refine wpAnyH_take (i := 2) (oi := ⟨some 93, _, _, _, _, _⟩) (v := ?_) rfl (by kernel_rfl) (by kernel_rfl) (by kernel_rfl) (fun _ _ _ h => h) (Or.inl ⟨by kernel_rfl, ?_⟩) hH ?_
              rotate_left 1
              · intro wq hq; obtain ⟨r0, r3, r6, r7, r8⟩ := HRC.out wq hq.1; clear hq; first | (go_simp; done) | (go_simp; with_reducible rfl)
              simp only [Act.put, List.setIfInBounds_toArray, List.set_cons_zero, List.set_cons_succ]
              refine wpAnyH_take (i := 3) (oi := ⟨some 94, _, _, _, _, _⟩) (v := ?_) rfl (by kernel_rfl) (by kernel_rfl) (by kernel_rfl) (fun _ _ _ h => h) (Or.inl ⟨by kernel_rfl, ?_⟩) hH ?_
              rotate_left 1
              · intro wq hq; obtain ⟨r0, r3, r6, r7, r8⟩ := HRC.out wq hq.1; clear hq; first | (go_simp; done) | (go_simp; with_reducible rfl)
              simp only [Act.put, List.setIfInBounds_toArray, List.set_cons_zero, List.set_cons_succ]
              refine wpAnyH_take (i := 4) (oi := ⟨some 95, _, _, _, _, _⟩) (v := undef) rfl (by kernel_rfl) (by kernel_rfl) (by kernel_rfl) (fun _ _ _ h => h) (Or.inr ⟨by kernel_rfl, rfl⟩) hH ?_
              simp only [Act.put, List.setIfInBounds_toArray, List.set_cons_zero, List.set_cons_succ]
              refine wpAnyH_take (i := 5) (oi := ⟨some 96, _, _, _, _, _⟩) (v := undef) rfl (by kernel_rfl) (by kernel_rfl) (by kernel_rfl) (fun _ _ _ h => h) (Or.inr ⟨by kernel_rfl, rfl⟩) hH ?_
              simp only [Act.put, List.setIfInBounds_toArray, List.set_cons_zero, List.set_cons_succ]
              refine wpAnyH_take (i := 6) (oi := ⟨some 97, _, _, _, _, _⟩) (v := undef) rfl (by kernel_rfl) (by kernel_rfl) (by kernel_rfl) (fun _ _ _ h => h) (Or.inr ⟨by kernel_rfl, rfl⟩) hH ?_
              simp only [Act.put, List.setIfInBounds_toArray, List.set_cons_zero, List.set_cons_succ]
              refine wpAnyH_take (i := 7) (oi := ⟨some 98, _, _, _, _, _⟩) (v := undef) rfl (by kernel_rfl) (by kernel_rfl) (by kernel_rfl) (fun _ _ _ h => h) (Or.inr ⟨by kernel_rfl, rfl⟩) hH ?_
              simp only [Act.put, List.setIfInBounds_toArray, List.set_cons_zero, List.set_cons_succ]
              refine wpAnyH_take (i := 8) (oi := ⟨some 99, _, _, _, _, _⟩) (v := undef) rfl (by kernel_rfl) (by kernel_rfl) (by kernel_rfl) (fun _ _ _ h => h) (Or.inr ⟨by kernel_rfl, rfl⟩) hH ?_
              simp only [Act.put, List.setIfInBounds_toArray, List.set_cons_zero, List.set_cons_succ]
              refine wpAnyH_take (i := 9) (oi := ⟨some 100, _, _, _, _, _⟩) (v := undef) rfl (by kernel_rfl) (by kernel_rfl) (by kernel_rfl) (fun _ _ _ h => h) (Or.inr ⟨by kernel_rfl, rfl⟩) hH ?_
              simp only [Act.put, List.setIfInBounds_toArray, List.set_cons_zero, List.set_cons_succ]
              refine wpAnyH_take (i := 10) (oi := ⟨some 101, _, _, _, _, _⟩) (v := undef) rfl (by kernel_rfl) (by kernel_rfl) (by kernel_rfl) (fun _ _ _ h => h) (Or.inr ⟨by kernel_rfl, rfl⟩) hH ?_
              simp only [Act.put, List.setIfInBounds_toArray, List.set_cons_zero, List.set_cons_succ]
              refine wpAnyH_take (i := 11) (oi := ⟨some 102, _, _, _, _, _⟩) (v := undef) rfl (by kernel_rfl) (by kernel_rfl) (by kernel_rfl) (fun _ _ _ h => h) (Or.inr ⟨by kernel_rfl, rfl⟩) hH ?_
              simp only [Act.put, List.setIfInBounds_toArray, List.set_cons_zero, List.set_cons_succ]
              refine wpAnyH_take (i := 12) (oi := ⟨some 103, _, _, _, _, _⟩) (v := ?_) rfl (by kernel_rfl) (by kernel_rfl) (by kernel_rfl) (fun _ _ _ h => h) (Or.inl ⟨by kernel_rfl, ?_⟩) hH ?_
              rotate_left 1
              · intro wq hq; obtain ⟨r0, r3, r6, r7, r8⟩ := HRC.out wq hq.1; clear hq; first | (go_simp; done) | (go_simp; with_reducible rfl)
              simp only [Act.put, List.setIfInBounds_toArray, List.set_cons_zero, List.set_cons_succ]
              refine wpAnyH_done (by kernel_rfl) ?_ _
              clear hH
              have HKD := Lib.hid (HK9.out.on (Below.refl _ _).drew)
              clear HREC9 HHA9 HK9 HRC HEC HSAY HRNG HE HEB HEV
              go_wp2_with fail
              exact ⟨⟨k + 1, S2, _, _, by omega, by omega, by rw [Int.natCast_succ], HKD.out⟩, by simp [intOf]; omega⟩
            · have hr1 : (0 : Int) < rd := by omega
              have HHY := Lib.hid (HHX.out (by omega))
              have p1 : ¬ ((rd : Int) < 0) := by omega
              have p2 : ¬ ((31 : Int) < rd) := by omega
              have p3 : ¬ ((rd : Int) = 0) := by omega
              have p4 : (rd : Int) < 32 := by omega
              have p5 : (0 : Int) < rd := hr1
              have b4 : decide ((0 : Int) < rd) = true := decide_eq_true p5
              have p6 : 0 < rd := by omega
              have b5 : decide (0 < rd) = true := decide_eq_true p6
              have b1 : decide ((rd : Int) < 0) = false := decide_eq_false p1
              have b2 : decide ((31 : Int) < rd) = false := decide_eq_false p2
              have b3 : ((rd : Int) == 0) = false := beq_eq_false_iff_ne.2 p3
              clear HV0 HHX
              refine wp_region_held_drew (S := fun wq => wq.heap[g9]? = some (.cells (recA (F.drop 66)) 30 (0, 0)) ∧ wq.heap[g10]? = some (.cells (hartA (F.take 66)) 43 (0, 0)) ∧ wq.rangeAt eb (eo + k * 10) (cksV envC (evs k))) (by kernel_rfl) ⟨HREC8.out, HHA.out, HRNG.out _ HK8.out.below.drew⟩ (fun hH => ?_)
              refine wpAnyH_take (i := 0) (oi := ⟨some 44, _, _, _, _, _⟩) (v := ?_) rfl (by kernel_rfl) (by kernel_rfl) (by kernel_rfl) (fun _ _ _ h => h) (Or.inl ⟨by kernel_rfl, ?_⟩) hH ?_
              rotate_left 1
              · intro wq hq; obtain ⟨r0, r3, r6, r7, r8⟩ := HRC.out wq hq.1; have re := HEC.out wq hq.2.2; have q1 : rowIs wq g10 66 = true := (by have := rowIs_of hq.2.1; rwa [hartA_size] at this); have q2 : rowOf wq g10 = hartA (F.take 66) := rowOf_of hq.2.1; clear hq; first | (go_simp; done) | (go_simp; with_reducible rfl)
              simp only [Act.put, List.setIfInBounds_toArray, List.set_cons_zero, List.set_cons_succ]
              refine wpAnyH_ready (rs := [1]) (by kernel_rfl) (by simp) (AllReadyH.cons (o := ⟨some 45, _, _, _, _, _⟩) rfl (fun K hK => ?_) AllReadyH.nil)
              go_simp
              refine (HSAY.out _).mono ?_
              rintro e w9 ⟨rfl, hb⟩
              have HK9 := Lib.hid ((HK8.out.on (Below.refl _ _).drew).on hb)
              have HREC9 : Hid (w9.heap[g9]? = some (.cells (recA (F.drop 66)) 30 (0, 0))) := (hb.block _ (blk_lt HREC8.out)).trans HREC8.out
              have HHA9 : Hid (w9.heap[g10]? = some (.cells (hartA (F.take 66)) 43 (0, 0))) := (hb.block _ (blk_lt HHA.out)).trans HHA.out
              clear hb HK8 HREC8 HHA
              go_wp2_with fail
              refine hK.out _ _ ⟨HREC9.out, HHA9.out, HRNG.out _ HK9.out.below⟩ (fun hH => ?_)
              clear hK K
              try simp only [Act.put, List.setIfInBounds_toArray, List.set_cons_zero, List.set_cons_succ]
              refine wpAnyH_take (i := 2) (oi := ⟨some 46, _, _, _, _, _⟩) (v := ?_) rfl (by kernel_rfl) (by kernel_rfl) (by kernel_rfl) (fun _ _ _ h => h) (Or.inl ⟨by kernel_rfl, ?_⟩) hH ?_
              rotate_left 1
              · intro wq hq; obtain ⟨r0, r3, r6, r7, r8⟩ := HRC.out wq hq.1; have re := HEC.out wq hq.2.2; have q1 : rowIs wq g10 66 = true := (by have := rowIs_of hq.2.1; rwa [hartA_size] at this); have q2 : rowOf wq g10 = hartA (F.take 66) := rowOf_of hq.2.1; clear hq; first | (go_simp; done) | (go_simp; with_reducible rfl)
              simp only [Act.put, List.setIfInBounds_toArray, List.set_cons_zero, List.set_cons_succ]
              refine wpAnyH_take (i := 3) (oi := ⟨some 47, _, _, _, _, _⟩) (v := ?_) rfl (by kernel_rfl) (by kernel_rfl) (by kernel_rfl) (fun _ _ _ h => h) (Or.inl ⟨by kernel_rfl, ?_⟩) hH ?_
              rotate_left 1
              · intro wq hq; obtain ⟨r0, r3, r6, r7, r8⟩ := HRC.out wq hq.1; have re := HEC.out wq hq.2.2; have q1 : rowIs wq g10 66 = true := (by have := rowIs_of hq.2.1; rwa [hartA_size] at this); have q2 : rowOf wq g10 = hartA (F.take 66) := rowOf_of hq.2.1; clear hq; first | (go_simp; done) | (go_simp; with_reducible rfl)
              simp only [Act.put, List.setIfInBounds_toArray, List.set_cons_zero, List.set_cons_succ]
              refine wpAnyH_take (i := 4) (oi := ⟨some 48, _, _, _, _, _⟩) (v := ?_) rfl (by kernel_rfl) (by kernel_rfl) (by kernel_rfl) (fun _ _ _ h => h) (Or.inl ⟨by kernel_rfl, ?_⟩) hH ?_
              rotate_left 1
              · intro wq hq; obtain ⟨r0, r3, r6, r7, r8⟩ := HRC.out wq hq.1; have re := HEC.out wq hq.2.2; have q1 : rowIs wq g10 66 = true := (by have := rowIs_of hq.2.1; rwa [hartA_size] at this); have q2 : rowOf wq g10 = hartA (F.take 66) := rowOf_of hq.2.1; clear hq; first | (go_simp; done) | (go_simp; with_reducible rfl)
              simp only [Act.put, List.setIfInBounds_toArray, List.set_cons_zero, List.set_cons_succ]
              refine wpAnyH_take (i := 5) (oi := ⟨some 49, _, _, _, _, _⟩) (v := ?_) rfl (by kernel_rfl) (by kernel_rfl) (by kernel_rfl) (fun _ _ _ h => h) (Or.inl ⟨by kernel_rfl, ?_⟩) hH ?_
              rotate_left 1
              · intro wq hq; obtain ⟨r0, r3, r6, r7, r8⟩ := HRC.out wq hq.1; have re := HEC.out wq hq.2.2; have q1 : rowIs wq g10 66 = true := (by have := rowIs_of hq.2.1; rwa [hartA_size] at this); have q2 : rowOf wq g10 = hartA (F.take 66) := rowOf_of hq.2.1; clear hq; first | (go_simp; done) | (go_simp; with_reducible rfl)
              simp only [Act.put, List.setIfInBounds_toArray, List.set_cons_zero, List.set_cons_succ]
              refine wpAnyH_take (i := 6) (oi := ⟨some 50, _, _, _, _, _⟩) (v := ?_) rfl (by kernel_rfl) (by kernel_rfl) (by kernel_rfl) (fun _ _ _ h => h) (Or.inl ⟨by kernel_rfl, ?_⟩) hH ?_
              rotate_left 1
              · intro wq hq; obtain ⟨r0, r3, r6, r7, r8⟩ := HRC.out wq hq.1; have re := HEC.out wq hq.2.2; have q1 : rowIs wq g10 66 = true := (by have := rowIs_of hq.2.1; rwa [hartA_size] at this); have q2 : rowOf wq g10 = hartA (F.take 66) := rowOf_of hq.2.1; clear hq; first | (go_simp; done) | (go_simp; with_reducible rfl)
              simp only [Act.put, List.setIfInBounds_toArray, List.set_cons_zero, List.set_cons_succ]
              refine wpAnyH_take (i := 7) (oi := ⟨some 51, _, _, _, _, _⟩) (v := ?_) rfl (by kernel_rfl) (by kernel_rfl) (by kernel_rfl) (fun _ _ _ h => h) (Or.inl ⟨by kernel_rfl, ?_⟩) hH ?_
              rotate_left 1
              · intro wq hq; obtain ⟨r0, r3, r6, r7, r8⟩ := HRC.out wq hq.1; have re := HEC.out wq hq.2.2; have q1 : rowIs wq g10 66 = true := (by have := rowIs_of hq.2.1; rwa [hartA_size] at this); have q2 : rowOf wq g10 = hartA (F.take 66) := rowOf_of hq.2.1; clear hq; first | (go_simp; done) | (go_simp; with_reducible rfl)
              simp only [Act.put, List.setIfInBounds_toArray, List.set_cons_zero, List.set_cons_succ]
              refine wpAnyH_take (i := 8) (oi := ⟨some 52, _, _, _, _, _⟩) (v := ?_) rfl (by kernel_rfl) (by kernel_rfl) (by kernel_rfl) (fun _ _ _ h => h) (Or.inl ⟨by kernel_rfl, ?_⟩) hH ?_
              rotate_left 1
              · intro wq hq; obtain ⟨r0, r3, r6, r7, r8⟩ := HRC.out wq hq.1; have re := HEC.out wq hq.2.2; have q1 : rowIs wq g10 66 = true := (by have := rowIs_of hq.2.1; rwa [hartA_size] at this); have q2 : rowOf wq g10 = hartA (F.take 66) := rowOf_of hq.2.1; clear hq; first | (go_simp; done) | (go_simp; with_reducible rfl)
              simp only [Act.put, List.setIfInBounds_toArray, List.set_cons_zero, List.set_cons_succ]
              refine wpAnyH_take (i := 9) (oi := ⟨some 53, _, _, _, _, _⟩) (v := ?_) rfl (by kernel_rfl) (by kernel_rfl) (by kernel_rfl) (fun _ _ _ h => h) (Or.inl ⟨by kernel_rfl, ?_⟩) hH ?_
              rotate_left 1
              · intro wq hq; obtain ⟨r0, r3, r6, r7, r8⟩ := HRC.out wq hq.1; have re := HEC.out wq hq.2.2; have q1 : rowIs wq g10 66 = true := (by have := rowIs_of hq.2.1; rwa [hartA_size] at this); have q2 : rowOf wq g10 = hartA (F.take 66) := rowOf_of hq.2.1; clear hq; first | (go_simp; done) | (go_simp; with_reducible rfl)
              simp only [Act.put, List.setIfInBounds_toArray, List.set_cons_zero, List.set_cons_succ]
              refine wpAnyH_take (i := 10) (oi := ⟨some 54, _, _, _, _, _⟩) (v := ?_) rfl (by kernel_rfl) (by kernel_rfl) (by kernel_rfl) (fun _ _ _ h => h) (Or.inl ⟨by kernel_rfl, ?_⟩) hH ?_
              rotate_left 1
              · intro wq hq; obtain ⟨r0, r3, r6, r7, r8⟩ := HRC.out wq hq.1; have re := HEC.out wq hq.2.2; have q1 : rowIs wq g10 66 = true := (by have := rowIs_of hq.2.1; rwa [hartA_size] at this); have q2 : rowOf wq g10 = hartA (F.take 66) := rowOf_of hq.2.1; clear hq; first | (go_simp; done) | (go_simp; with_reducible rfl)
              simp only [Act.put, List.setIfInBounds_toArray, List.set_cons_zero, List.set_cons_succ]
              refine wpAnyH_take (i := 11) (oi := ⟨some 55, _, _, _, _, _⟩) (v := ?_) rfl (by kernel_rfl) (by kernel_rfl) (by kernel_rfl) (fun _ _ _ h => h) (Or.inl ⟨by kernel_rfl, ?_⟩) hH ?_
              rotate_left 1
              · intro wq hq; obtain ⟨r0, r3, r6, r7, r8⟩ := HRC.out wq hq.1; have re := HEC.out wq hq.2.2; have q1 : rowIs wq g10 66 = true := (by have := rowIs_of hq.2.1; rwa [hartA_size] at this); have q2 : rowOf wq g10 = hartA (F.take 66) := rowOf_of hq.2.1; clear hq; first | (go_simp; done) | (go_simp; with_reducible rfl)
              simp only [Act.put, List.setIfInBounds_toArray, List.set_cons_zero, List.set_cons_succ]
              refine wpAnyH_take (i := 12) (oi := ⟨some 56, _, _, _, _, _⟩) (v := ?_) rfl (by kernel_rfl) (by kernel_rfl) (by kernel_rfl) (fun _ _ _ h => h) (Or.inl ⟨by kernel_rfl, ?_⟩) hH ?_
              rotate_left 1
              · intro wq hq; obtain ⟨r0, r3, r6, r7, r8⟩ := HRC.out wq hq.1; have re := HEC.out wq hq.2.2; have q1 : rowIs wq g10 66 = true := (by have := rowIs_of hq.2.1; rwa [hartA_size] at this); have q2 : rowOf wq g10 = hartA (F.take 66) := rowOf_of hq.2.1; clear hq; first | (go_simp; done) | (go_simp; with_reducible rfl)
              simp only [Act.put, List.setIfInBounds_toArray, List.set_cons_zero, List.set_cons_succ]
              refine wpAnyH_take (i := 13) (oi := ⟨some 57, _, _, _, _, _⟩) (v := ?_) rfl (by kernel_rfl) (by kernel_rfl) (by kernel_rfl) (fun _ _ _ h => h) (Or.inl ⟨by kernel_rfl, ?_⟩) hH ?_
              rotate_left 1
              · intro wq hq; obtain ⟨r0, r3, r6, r7, r8⟩ := HRC.out wq hq.1; have re := HEC.out wq hq.2.2; have q1 : rowIs wq g10 66 = true := (by have := rowIs_of hq.2.1; rwa [hartA_size] at this); have q2 : rowOf wq g10 = hartA (F.take 66) := rowOf_of hq.2.1; clear hq; first | (go_simp; done) | (go_simp; with_reducible rfl)
              simp only [Act.put, List.setIfInBounds_toArray, List.set_cons_zero, List.set_cons_succ]
              refine wpAnyH_take (i := 14) (oi := ⟨some 58, _, _, _, _, _⟩) (v := ?_) rfl (by kernel_rfl) (by kernel_rfl) (by kernel_rfl) (fun _ _ _ h => h) (Or.inl ⟨by kernel_rfl, ?_⟩) hH ?_
              rotate_left 1
              · intro wq hq; obtain ⟨r0, r3, r6, r7, r8⟩ := HRC.out wq hq.1; have re := HEC.out wq hq.2.2; have q1 : rowIs wq g10 66 = true := (by have := rowIs_of hq.2.1; rwa [hartA_size] at this); have q2 : rowOf wq g10 = hartA (F.take 66) := rowOf_of hq.2.1; clear hq; first | (go_simp; done) | (go_simp; with_reducible rfl)
              simp only [Act.put, List.setIfInBounds_toArray, List.set_cons_zero, List.set_cons_succ]
              refine wpAnyH_take (i := 15) (oi := ⟨some 59, _, _, _, _, _⟩) (v := ?_) rfl (by kernel_rfl) (by kernel_rfl) (by kernel_rfl) (fun _ _ _ h => h) (Or.inl ⟨by kernel_rfl, ?_⟩) hH ?_
              rotate_left 1
              · intro wq hq; obtain ⟨r0, r3, r6, r7, r8⟩ := HRC.out wq hq.1; have re := HEC.out wq hq.2.2; have q1 : rowIs wq g10 66 = true := (by have := rowIs_of hq.2.1; rwa [hartA_size] at this); have q2 : rowOf wq g10 = hartA (F.take 66) := rowOf_of hq.2.1; clear hq; first | (go_simp; done) | (go_simp; with_reducible rfl)
              simp only [Act.put, List.setIfInBounds_toArray, List.set_cons_zero, List.set_cons_succ]
              refine wpAnyH_take (i := 16) (oi := ⟨some 60, _, _, _, _, _⟩) (v := ?_) rfl (by kernel_rfl) (by kernel_rfl) (by kernel_rfl) (fun _ _ _ h => h) (Or.inl ⟨by kernel_rfl, ?_⟩) hH ?_
              rotate_left 1
              · intro wq hq; obtain ⟨r0, r3, r6, r7, r8⟩ := HRC.out wq hq.1; have re := HEC.out wq hq.2.2; have q1 : rowIs wq g10 66 = true := (by have := rowIs_of hq.2.1; rwa [hartA_size] at this); have q2 : rowOf wq g10 = hartA (F.take 66) := rowOf_of hq.2.1; clear hq; first | (go_simp; done) | (go_simp; with_reducible rfl)
              simp only [Act.put, List.setIfInBounds_toArray, List.set_cons_zero, List.set_cons_succ]
              refine wpAnyH_take (i := 17) (oi := ⟨some 61, _, _, _, _, _⟩) (v := ?_) rfl (by kernel_rfl) (by kernel_rfl) (by kernel_rfl) (fun _ _ _ h => h) (Or.inl ⟨by kernel_rfl, ?_⟩) hH ?_
              rotate_left 1
              · intro wq hq; obtain ⟨r0, r3, r6, r7, r8⟩ := HRC.out wq hq.1; have re := HEC.out wq hq.2.2; have q1 : rowIs wq g10 66 = true := (by have := rowIs_of hq.2.1; rwa [hartA_size] at this); have q2 : rowOf wq g10 = hartA (F.take 66) := rowOf_of hq.2.1; clear hq; first | (go_simp; done) | (go_simp; with_reducible rfl)
              simp only [Act.put, List.setIfInBounds_toArray, List.set_cons_zero, List.set_cons_succ]
              refine wpAnyH_take (i := 18) (oi := ⟨some 62, _, _, _, _, _⟩) (v := undef) rfl (by kernel_rfl) (by kernel_rfl) (by kernel_rfl) (fun _ _ _ h => h) (Or.inr ⟨by kernel_rfl, rfl⟩) hH ?_
              simp only [Act.put, List.setIfInBounds_toArray, List.set_cons_zero, List.set_cons_succ]
              refine wpAnyH_take (i := 19) (oi := ⟨some 63, _, _, _, _, _⟩) (v := undef) rfl (by kernel_rfl) (by kernel_rfl) (by kernel_rfl) (fun _ _ _ h => h) (Or.inr ⟨by kernel_rfl, rfl⟩) hH ?_
              simp only [Act.put, List.setIfInBounds_toArray, List.set_cons_zero, List.set_cons_succ]
              refine wpAnyH_take (i := 20) (oi := ⟨some 64, _, _, _, _, _⟩) (v := undef) rfl (by kernel_rfl) (by kernel_rfl) (by kernel_rfl) (fun _ _ _ h => h) (Or.inr ⟨by kernel_rfl, rfl⟩) hH ?_
              simp only [Act.put, List.setIfInBounds_toArray, List.set_cons_zero, List.set_cons_succ]
              refine wpAnyH_take (i := 21) (oi := ⟨some 65, _, _, _, _, _⟩) (v := ?_) rfl (by kernel_rfl) (by kernel_rfl) (by kernel_rfl) (fun _ _ _ h => h) (Or.inl ⟨by kernel_rfl, ?_⟩) hH ?_
              rotate_left 1
              · intro wq hq; obtain ⟨r0, r3, r6, r7, r8⟩ := HRC.out wq hq.1; have re := HEC.out wq hq.2.2; have q1 : rowIs wq g10 66 = true := (by have := rowIs_of hq.2.1; rwa [hartA_size] at this); have q2 : rowOf wq g10 = hartA (F.take 66) := rowOf_of hq.2.1; clear hq; first | (go_simp; done) | (go_simp; with_reducible rfl)
              simp only [Act.put, List.setIfInBounds_toArray, List.set_cons_zero, List.set_cons_succ]
              refine wpAnyH_take (i := 22) (oi := ⟨some 66, _, _, _, _, _⟩) (v := ?_) rfl (by kernel_rfl) (by kernel_rfl) (by kernel_rfl) (fun _ _ _ h => h) (Or.inl ⟨by kernel_rfl, ?_⟩) hH ?_
              rotate_left 1
              · intro wq hq; obtain ⟨r0, r3, r6, r7, r8⟩ := HRC.out wq hq.1; have re := HEC.out wq hq.2.2; have q1 : rowIs wq g10 66 = true := (by have := rowIs_of hq.2.1; rwa [hartA_size] at this); have q2 : rowOf wq g10 = hartA (F.take 66) := rowOf_of hq.2.1; clear hq; first | (go_simp; done) | (go_simp; with_reducible rfl)
              simp only [Act.put, List.setIfInBounds_toArray, List.set_cons_zero, List.set_cons_succ]
              refine wpAnyH_take (i := 23) (oi := ⟨some 67, _, _, _, _, _⟩) (v := ?_) rfl (by kernel_rfl) (by kernel_rfl) (by kernel_rfl) (fun _ _ _ h => h) (Or.inl ⟨by kernel_rfl, ?_⟩) hH ?_
              rotate_left 1
              · intro wq hq; obtain ⟨r0, r3, r6, r7, r8⟩ := HRC.out wq hq.1; have re := HEC.out wq hq.2.2; have q1 : rowIs wq g10 66 = true := (by have := rowIs_of hq.2.1; rwa [hartA_size] at this); have q2 : rowOf wq g10 = hartA (F.take 66) := rowOf_of hq.2.1; clear hq; first | (go_simp; done) | (go_simp; with_reducible rfl)
              simp only [Act.put, List.setIfInBounds_toArray, List.set_cons_zero, List.set_cons_succ]
              refine wpAnyH_take (i := 24) (oi := ⟨some 68, _, _, _, _, _⟩) (v := ?_) rfl (by kernel_rfl) (by kernel_rfl) (by kernel_rfl) (fun _ _ _ h => h) (Or.inl ⟨by kernel_rfl, ?_⟩) hH ?_
              rotate_left 1
              · intro wq hq; obtain ⟨r0, r3, r6, r7, r8⟩ := HRC.out wq hq.1; have re := HEC.out wq hq.2.2; have q1 : rowIs wq g10 66 = true := (by have := rowIs_of hq.2.1; rwa [hartA_size] at this); have q2 : rowOf wq g10 = hartA (F.take 66) := rowOf_of hq.2.1; clear hq; first | (go_simp; done) | (go_simp; with_reducible rfl)
              simp only [Act.put, List.setIfInBounds_toArray, List.set_cons_zero, List.set_cons_succ]
              refine wpAnyH_take (i := 25) (oi := ⟨some 69, _, _, _, _, _⟩) (v := ?_) rfl (by kernel_rfl) (by kernel_rfl) (by kernel_rfl) (fun _ _ _ h => h) (Or.inl ⟨by kernel_rfl, ?_⟩) hH ?_
              rotate_left 1
              · intro wq hq; obtain ⟨r0, r3, r6, r7, r8⟩ := HRC.out wq hq.1; have re := HEC.out wq hq.2.2; have q1 : rowIs wq g10 66 = true := (by have := rowIs_of hq.2.1; rwa [hartA_size] at this); have q2 : rowOf wq g10 = hartA (F.take 66) := rowOf_of hq.2.1; clear hq; first | (go_simp; done) | (go_simp; with_reducible rfl)
              simp only [Act.put, List.setIfInBounds_toArray, List.set_cons_zero, List.set_cons_succ]
              refine wpAnyH_take (i := 26) (oi := ⟨some 70, _, _, _, _, _⟩) (v := ?_) rfl (by kernel_rfl) (by kernel_rfl) (by kernel_rfl) (fun _ _ _ h => h) (Or.inl ⟨by kernel_rfl, ?_⟩) hH ?_
              rotate_left 1
              · intro wq hq; obtain ⟨r0, r3, r6, r7, r8⟩ := HRC.out wq hq.1; have re := HEC.out wq hq.2.2; have q1 : rowIs wq g10 66 = true := (by have := rowIs_of hq.2.1; rwa [hartA_size] at this); have q2 : rowOf wq g10 = hartA (F.take 66) := rowOf_of hq.2.1; clear hq; first | (go_simp; done) | (go_simp; with_reducible rfl)
              simp only [Act.put, List.setIfInBounds_toArray, List.set_cons_zero, List.set_cons_succ]
              refine wpAnyH_take (i := 27) (oi := ⟨some 71, _, _, _, _, _⟩) (v := undef) rfl (by kernel_rfl) (by kernel_rfl) (by kernel_rfl) (fun _ _ _ h => h) (Or.inr ⟨by kernel_rfl, rfl⟩) hH ?_
              simp only [Act.put, List.setIfInBounds_toArray, List.set_cons_zero, List.set_cons_succ]
              refine wpAnyH_take (i := 28) (oi := ⟨some 72, _, _, _, _, _⟩) (v := undef) rfl (by kernel_rfl) (by kernel_rfl) (by kernel_rfl) (fun _ _ _ h => h) (Or.inr ⟨by kernel_rfl, rfl⟩) hH ?_
              simp only [Act.put, List.setIfInBounds_toArray, List.set_cons_zero, List.set_cons_succ]
              refine wpAnyH_take (i := 29) (oi := ⟨some 73, _, _, _, _, _⟩) (v := undef) rfl (by kernel_rfl) (by kernel_rfl) (by kernel_rfl) (fun _ _ _ h => h) (Or.inr ⟨by kernel_rfl, rfl⟩) hH ?_
              simp only [Act.put, List.setIfInBounds_toArray, List.set_cons_zero, List.set_cons_succ]
              refine wpAnyH_take (i := 30) (oi := ⟨some 74, _, _, _, _, _⟩) (v := undef) rfl (by kernel_rfl) (by kernel_rfl) (by kernel_rfl) (fun _ _ _ h => h) (Or.inr ⟨by kernel_rfl, rfl⟩) hH ?_
              simp only [Act.put, List.setIfInBounds_toArray, List.set_cons_zero, List.set_cons_succ]
              refine wpAnyH_take (i := 31) (oi := ⟨some 75, _, _, _, _, _⟩) (v := undef) rfl (by kernel_rfl) (by kernel_rfl) (by kernel_rfl) (fun _ _ _ h => h) (Or.inr ⟨by kernel_rfl, rfl⟩) hH ?_
              simp only [Act.put, List.setIfInBounds_toArray, List.set_cons_zero, List.set_cons_succ]
              refine wpAnyH_take (i := 32) (oi := ⟨some 76, _, _, _, _, _⟩) (v := undef) rfl (by kernel_rfl) (by kernel_rfl) (by kernel_rfl) (fun _ _ _ h => h) (Or.inr ⟨by kernel_rfl, rfl⟩) hH ?_
              simp only [Act.put, List.setIfInBounds_toArray, List.set_cons_zero, List.set_cons_succ]
              refine wpAnyH_take (i := 33) (oi := ⟨some 77, _, _, _, _, _⟩) (v := undef) rfl (by kernel_rfl) (by kernel_rfl) (by kernel_rfl) (fun _ _ _ h => h) (Or.inr ⟨by kernel_rfl, rfl⟩) hH ?_
              simp only [Act.put, List.setIfInBounds_toArray, List.set_cons_zero, List.set_cons_succ]
              refine wpAnyH_take (i := 34) (oi := ⟨some 78, _, _, _, _, _⟩) (v := undef) rfl (by kernel_rfl) (by kernel_rfl) (by kernel_rfl) (fun _ _ _ h => h) (Or.inr ⟨by kernel_rfl, rfl⟩) hH ?_
              simp only [Act.put, List.setIfInBounds_toArray, List.set_cons_zero, List.set_cons_succ]
              refine wpAnyH_take (i := 35) (oi := ⟨some 79, _, _, _, _, _⟩) (v := ?_) rfl (by kernel_rfl) (by kernel_rfl) (by kernel_rfl) (fun _ _ _ h => h) (Or.inl ⟨by kernel_rfl, ?_⟩) hH ?_
              rotate_left 1
              · intro wq hq; obtain ⟨r0, r3, r6, r7, r8⟩ := HRC.out wq hq.1; have re := HEC.out wq hq.2.2; have q1 : rowIs wq g10 66 = true := (by have := rowIs_of hq.2.1; rwa [hartA_size] at this); have q2 : rowOf wq g10 = hartA (F.take 66) := rowOf_of hq.2.1; clear hq; first | (go_simp; done) | (go_simp; with_reducible rfl)
              simp only [Act.put, List.setIfInBounds_toArray, List.set_cons_zero, List.set_cons_succ]
              refine wpAnyH_take (i := 36) (oi := ⟨some 80, _, _, _, _, _⟩) (v := ?_) rfl (by kernel_rfl) (by kernel_rfl) (by kernel_rfl) (fun _ _ _ h => h) (Or.inl ⟨by kernel_rfl, ?_⟩) hH ?_
              rotate_left 1
              · intro wq hq; obtain ⟨r0, r3, r6, r7, r8⟩ := HRC.out wq hq.1; have re := HEC.out wq hq.2.2; have q1 : rowIs wq g10 66 = true := (by have := rowIs_of hq.2.1; rwa [hartA_size] at this); have q2 : rowOf wq g10 = hartA (F.take 66) := rowOf_of hq.2.1; clear hq; first | (go_simp; done) | (go_simp; with_reducible rfl)
              simp only [Act.put, List.setIfInBounds_toArray, List.set_cons_zero, List.set_cons_succ]
              refine wpAnyH_take (i := 37) (oi := ⟨some 81, _, _, _, _, _⟩) (v := ?_) rfl (by kernel_rfl) (by kernel_rfl) (by kernel_rfl) (fun _ _ _ h => h) (Or.inl ⟨by kernel_rfl, ?_⟩) hH ?_
              rotate_left 1
              · intro wq hq; obtain ⟨r0, r3, r6, r7, r8⟩ := HRC.out wq hq.1; have re := HEC.out wq hq.2.2; have q1 : rowIs wq g10 66 = true := (by have := rowIs_of hq.2.1; rwa [hartA_size] at this); have q2 : rowOf wq g10 = hartA (F.take 66) := rowOf_of hq.2.1; clear hq; first | (go_simp; done) | (go_simp; with_reducible rfl)
              simp only [Act.put, List.setIfInBounds_toArray, List.set_cons_zero, List.set_cons_succ]
              refine wpAnyH_take (i := 38) (oi := ⟨some 82, _, _, _, _, _⟩) (v := ?_) rfl (by kernel_rfl) (by kernel_rfl) (by kernel_rfl) (fun _ _ _ h => h) (Or.inl ⟨by kernel_rfl, ?_⟩) hH ?_
              rotate_left 1
              · intro wq hq; obtain ⟨r0, r3, r6, r7, r8⟩ := HRC.out wq hq.1; have re := HEC.out wq hq.2.2; have q1 : rowIs wq g10 66 = true := (by have := rowIs_of hq.2.1; rwa [hartA_size] at this); have q2 : rowOf wq g10 = hartA (F.take 66) := rowOf_of hq.2.1; clear hq; first | (go_simp; done) | (go_simp; with_reducible rfl)
              simp only [Act.put, List.setIfInBounds_toArray, List.set_cons_zero, List.set_cons_succ]
              refine wpAnyH_take (i := 39) (oi := ⟨some 83, _, _, _, _, _⟩) (v := ?_) rfl (by kernel_rfl) (by kernel_rfl) (by kernel_rfl) (fun _ _ _ h => h) (Or.inl ⟨by kernel_rfl, ?_⟩) hH ?_
              rotate_left 1
              · intro wq hq; obtain ⟨r0, r3, r6, r7, r8⟩ := HRC.out wq hq.1; have re := HEC.out wq hq.2.2; have q1 : rowIs wq g10 66 = true := (by have := rowIs_of hq.2.1; rwa [hartA_size] at this); have q2 : rowOf wq g10 = hartA (F.take 66) := rowOf_of hq.2.1; clear hq; first | (go_simp; done) | (go_simp; with_reducible rfl)
              simp only [Act.put, List.setIfInBounds_toArray, List.set_cons_zero, List.set_cons_succ]
              refine wpAnyH_take (i := 40) (oi := ⟨some 84, _, _, _, _, _⟩) (v := ?_) rfl (by kernel_rfl) (by kernel_rfl) (by kernel_rfl) (fun _ _ _ h => h) (Or.inl ⟨by kernel_rfl, ?_⟩) hH ?_
              rotate_left 1
              · intro wq hq; obtain ⟨r0, r3, r6, r7, r8⟩ := HRC.out wq hq.1; have re := HEC.out wq hq.2.2; have q1 : rowIs wq g10 66 = true := (by have := rowIs_of hq.2.1; rwa [hartA_size] at this); have q2 : rowOf wq g10 = hartA (F.take 66) := rowOf_of hq.2.1; clear hq; first | (go_simp; done) | (go_simp; with_reducible rfl)
              simp only [Act.put, List.setIfInBounds_toArray, List.set_cons_zero, List.set_cons_succ]
              refine wpAnyH_take (i := 41) (oi := ⟨some 85, _, _, _, _, _⟩) (v := ?_) rfl (by kernel_rfl) (by kernel_rfl) (by kernel_rfl) (fun _ _ _ h => h) (Or.inl ⟨by kernel_rfl, ?_⟩) hH ?_
              rotate_left 1
              · intro wq hq; obtain ⟨r0, r3, r6, r7, r8⟩ := HRC.out wq hq.1; have re := HEC.out wq hq.2.2; have q1 : rowIs wq g10 66 = true := (by have := rowIs_of hq.2.1; rwa [hartA_size] at this); have q2 : rowOf wq g10 = hartA (F.take 66) := rowOf_of hq.2.1; clear hq; first | (go_simp; done) | (go_simp; with_reducible rfl)
              simp only [Act.put, List.setIfInBounds_toArray, List.set_cons_zero, List.set_cons_succ]
              refine wpAnyH_take (i := 42) (oi := ⟨some 86, _, _, _, _, _⟩) (v := ?_) rfl (by kernel_rfl) (by kernel_rfl) (by kernel_rfl) (fun _ _ _ h => h) (Or.inl ⟨by kernel_rfl, ?_⟩) hH ?_
              rotate_left 1
              · intro wq hq; obtain ⟨r0, r3, r6, r7, r8⟩ := HRC.out wq hq.1; have re := HEC.out wq hq.2.2; have q1 : rowIs wq g10 66 = true := (by have := rowIs_of hq.2.1; rwa [hartA_size] at this); have q2 : rowOf wq g10 = hartA (F.take 66) := rowOf_of hq.2.1; clear hq; first | (go_simp; done) | (go_simp; with_reducible rfl)
              simp only [Act.put, List.setIfInBounds_toArray, List.set_cons_zero, List.set_cons_succ]
              refine wpAnyH_take (i := 43) (oi := ⟨some 87, _, _, _, _, _⟩) (v := ?_) rfl (by kernel_rfl) (by kernel_rfl) (by kernel_rfl) (fun _ _ _ h => h) (Or.inl ⟨by kernel_rfl, ?_⟩) hH ?_
              rotate_left 1
              · intro wq hq; obtain ⟨r0, r3, r6, r7, r8⟩ := HRC.out wq hq.1; have re := HEC.out wq hq.2.2; have q1 : rowIs wq g10 66 = true := (by have := rowIs_of hq.2.1; rwa [hartA_size] at this); have q2 : rowOf wq g10 = hartA (F.take 66) := rowOf_of hq.2.1; clear hq; first | (go_simp; done) | (go_simp; with_reducible rfl)
              simp only [Act.put, List.setIfInBounds_toArray, List.set_cons_zero, List.set_cons_succ]
              refine wpAnyH_take (i := 44) (oi := ⟨some 88, _, _, _, _, _⟩) (v := ?_) rfl (by kernel_rfl) (by kernel_rfl) (by kernel_rfl) (fun _ _ _ h => h) (Or.inl ⟨by kernel_rfl, ?_⟩) hH ?_
              rotate_left 1
              · intro wq hq; obtain ⟨r0, r3, r6, r7, r8⟩ := HRC.out wq hq.1; have re := HEC.out wq hq.2.2; have q1 : rowIs wq g10 66 = true := (by have := rowIs_of hq.2.1; rwa [hartA_size] at this); have q2 : rowOf wq g10 = hartA (F.take 66) := rowOf_of hq.2.1; clear hq; first | (go_simp; done) | (go_simp; with_reducible rfl)
              simp only [Act.put, List.setIfInBounds_toArray, List.set_cons_zero, List.set_cons_succ]
              refine wpAnyH_take (i := 45) (oi := ⟨some 89, _, _, _, _, _⟩) (v := ?_) rfl (by kernel_rfl) (by kernel_rfl) (by kernel_rfl) (fun _ _ _ h => h) (Or.inl ⟨by kernel_rfl, ?_⟩) hH ?_
              rotate_left 1
              · intro wq hq; obtain ⟨r0, r3, r6, r7, r8⟩ := HRC.out wq hq.1; have re := HEC.out wq hq.2.2; have q1 : rowIs wq g10 66 = true := (by have := rowIs_of hq.2.1; rwa [hartA_size] at this); have q2 : rowOf wq g10 = hartA (F.take 66) := rowOf_of hq.2.1; clear hq; first | (go_simp; done) | (go_simp; with_reducible rfl)
              simp only [Act.put, List.setIfInBounds_toArray, List.set_cons_zero, List.set_cons_succ]
              refine wpAnyH_take (i := 46) (oi := ⟨some 90, _, _, _, _, _⟩) (v := ?_) rfl (by kernel_rfl) (by kernel_rfl) (by kernel_rfl) (fun _ _ _ h => h) (Or.inl ⟨by kernel_rfl, ?_⟩) hH ?_
              rotate_left 1
              · intro wq hq; obtain ⟨r0, r3, r6, r7, r8⟩ := HRC.out wq hq.1; have re := HEC.out wq hq.2.2; have q1 : rowIs wq g10 66 = true := (by have := rowIs_of hq.2.1; rwa [hartA_size] at this); have q2 : rowOf wq g10 = hartA (F.take 66) := rowOf_of hq.2.1; clear hq; first | (go_simp; done) | (go_simp; with_reducible rfl)
              simp only [Act.put, List.setIfInBounds_toArray, List.set_cons_zero, List.set_cons_succ]
              refine wpAnyH_done (by kernel_rfl) ?_ _
              clear hH
              go_wp2_with fail
              refine wp_region_held_drew (S := fun wq => wq.heap[g9]? = some (.cells (recA (F.drop 66)) 30 (0, 0)) ∧ wq.heap[g10]? = some (.cells (hartA (F.take 66)) 43 (0, 0))) (by kernel_rfl) ⟨HREC9.out, HHA9.out⟩ (fun hH => ?_)
              refine wpAnyH_take (i := 0) (oi := ⟨some 91, _, _, _, _, _⟩) (v := ?_) rfl (by kernel_rfl) (by kernel_rfl) (by kernel_rfl) (fun _ _ _ h => h) (Or.inl ⟨by kernel_rfl, ?_⟩) hH ?_
              rotate_left 1
              · intro wq hq; obtain ⟨r0, r3, r6, r7, r8⟩ := HRC.out wq hq.1; have rx := HHY.out wq hq.2; clear hq; first | (go_simp; done) | (go_simp; with_reducible rfl)
              simp only [Act.put, List.setIfInBounds_toArray, List.set_cons_zero, List.set_cons_succ]
              refine wpAnyH_take (i := 1) (oi := ⟨some 92, _, _, _, _, _⟩) (v := ?_) rfl (by kernel_rfl) (by kernel_rfl) (by kernel_rfl) (fun _ _ _ h => h) (Or.inl ⟨by kernel_rfl, ?_⟩) hH ?_
              rotate_left 1
              · intro wq hq; obtain ⟨r0, r3, r6, r7, r8⟩ := HRC.out wq hq.1; have rx := HHY.out wq hq.2; clear hq; first | (go_simp; done) | (go_simp; with_reducible rfl)
              simp only [Act.put, List.setIfInBounds_toArray, List.set_cons_zero, List.set_cons_succ]
              refine wpAnyH_take (i := 2) (oi := ⟨some 93, _, _, _, _, _⟩) (v := ?_) rfl (by kernel_rfl) (by kernel_rfl) (by kernel_rfl) (fun _ _ _ h => h) (Or.inl ⟨by kernel_rfl, ?_⟩) hH ?_
              rotate_left 1
              · intro wq hq; obtain ⟨r0, r3, r6, r7, r8⟩ := HRC.out wq hq.1; have rx := HHY.out wq hq.2; clear hq; first | (go_simp; done) | (go_simp; with_reducible rfl)
              simp only [Act.put, List.setIfInBounds_toArray, List.set_cons_zero, List.set_cons_succ]
              refine wpAnyH_take (i := 3) (oi := ⟨some 94, _, _, _, _, _⟩) (v := ?_) rfl (by kernel_rfl) (by kernel_rfl) (by kernel_rfl) (fun _ _ _ h => h) (Or.inl ⟨by kernel_rfl, ?_⟩) hH ?_
              rotate_left 1
              · intro wq hq; obtain ⟨r0, r3, r6, r7, r8⟩ := HRC.out wq hq.1; have rx := HHY.out wq hq.2; clear hq; first | (go_simp; done) | (go_simp; with_reducible rfl)
              simp only [Act.put, List.setIfInBounds_toArray, List.set_cons_zero, List.set_cons_succ]
              refine wpAnyH_take (i := 4) (oi := ⟨some 95, _, _, _, _, _⟩) (v := ?_) rfl (by kernel_rfl) (by kernel_rfl) (by kernel_rfl) (fun _ _ _ h => h) (Or.inl ⟨by kernel_rfl, ?_⟩) hH ?_
              rotate_left 1
              · intro wq hq; obtain ⟨r0, r3, r6, r7, r8⟩ := HRC.out wq hq.1; have rx := HHY.out wq hq.2; clear hq; first | (go_simp; done) | (go_simp; with_reducible rfl)
              simp only [Act.put, List.setIfInBounds_toArray, List.set_cons_zero, List.set_cons_succ]
              refine wpAnyH_take (i := 5) (oi := ⟨some 96, _, _, _, _, _⟩) (v := ?_) rfl (by kernel_rfl) (by kernel_rfl) (by kernel_rfl) (fun _ _ _ h => h) (Or.inl ⟨by kernel_rfl, ?_⟩) hH ?_
              rotate_left 1
              · intro wq hq; obtain ⟨r0, r3, r6, r7, r8⟩ := HRC.out wq hq.1; have rx := HHY.out wq hq.2; clear hq; first | (go_simp; done) | (go_simp; with_reducible rfl)
              simp only [Act.put, List.setIfInBounds_toArray, List.set_cons_zero, List.set_cons_succ]
              refine wpAnyH_take (i := 6) (oi := ⟨some 97, _, _, _, _, _⟩) (v := ?_) rfl (by kernel_rfl) (by kernel_rfl) (by kernel_rfl) (fun _ _ _ h => h) (Or.inl ⟨by kernel_rfl, ?_⟩) hH ?_
              rotate_left 1
              · intro wq hq; obtain ⟨r0, r3, r6, r7, r8⟩ := HRC.out wq hq.1; have rx := HHY.out wq hq.2; clear hq; first | (go_simp; done) | (go_simp; with_reducible rfl)
              simp only [Act.put, List.setIfInBounds_toArray, List.set_cons_zero, List.set_cons_succ]
              refine wpAnyH_take (i := 7) (oi := ⟨some 98, _, _, _, _, _⟩) (v := ?_) rfl (by kernel_rfl) (by kernel_rfl) (by kernel_rfl) (fun _ _ _ h => h) (Or.inl ⟨by kernel_rfl, ?_⟩) hH ?_
              rotate_left 1
              · intro wq hq; obtain ⟨r0, r3, r6, r7, r8⟩ := HRC.out wq hq.1; have rx := HHY.out wq hq.2; clear hq; first | (go_simp; done) | (go_simp; with_reducible rfl)
              simp only [Act.put, List.setIfInBounds_toArray, List.set_cons_zero, List.set_cons_succ]
              refine wpAnyH_take (i := 8) (oi := ⟨some 99, _, _, _, _, _⟩) (v := ?_) rfl (by kernel_rfl) (by kernel_rfl) (by kernel_rfl) (fun _ _ _ h => h) (Or.inl ⟨by kernel_rfl, ?_⟩) hH ?_
              rotate_left 1
              · intro wq hq; obtain ⟨r0, r3, r6, r7, r8⟩ := HRC.out wq hq.1; have rx := HHY.out wq hq.2; clear hq; first | (go_simp; done) | (go_simp; with_reducible rfl)
              simp only [Act.put, List.setIfInBounds_toArray, List.set_cons_zero, List.set_cons_succ]
              refine wpAnyH_take (i := 9) (oi := ⟨some 100, _, _, _, _, _⟩) (v := ?_) rfl (by kernel_rfl) (by kernel_rfl) (by kernel_rfl) (fun _ _ _ h => h) (Or.inl ⟨by kernel_rfl, ?_⟩) hH ?_
              rotate_left 1
              · intro wq hq; obtain ⟨r0, r3, r6, r7, r8⟩ := HRC.out wq hq.1; have rx := HHY.out wq hq.2; clear hq; first | (go_simp; done) | (go_simp; with_reducible rfl)
              simp only [Act.put, List.setIfInBounds_toArray, List.set_cons_zero, List.set_cons_succ]
              refine wpAnyH_take (i := 10) (oi := ⟨some 101, _, _, _, _, _⟩) (v := ?_) rfl (by kernel_rfl) (by kernel_rfl) (by kernel_rfl) (fun _ _ _ h => h) (Or.inl ⟨by kernel_rfl, ?_⟩) hH ?_
              rotate_left 1
              · intro wq hq; obtain ⟨r0, r3, r6, r7, r8⟩ := HRC.out wq hq.1; have rx := HHY.out wq hq.2; clear hq; first | (go_simp; done) | (go_simp; with_reducible rfl)
              simp only [Act.put, List.setIfInBounds_toArray, List.set_cons_zero, List.set_cons_succ]
              refine wpAnyH_take (i := 11) (oi := ⟨some 102, _, _, _, _, _⟩) (v := ?_) rfl (by kernel_rfl) (by kernel_rfl) (by kernel_rfl) (fun _ _ _ h => h) (Or.inl ⟨by kernel_rfl, ?_⟩) hH ?_
              rotate_left 1
              · intro wq hq; obtain ⟨r0, r3, r6, r7, r8⟩ := HRC.out wq hq.1; have rx := HHY.out wq hq.2; clear hq; first | (go_simp; done) | (go_simp; with_reducible rfl)
              simp only [Act.put, List.setIfInBounds_toArray, List.set_cons_zero, List.set_cons_succ]
              refine wpAnyH_take (i := 12) (oi := ⟨some 103, _, _, _, _, _⟩) (v := ?_) rfl (by kernel_rfl) (by kernel_rfl) (by kernel_rfl) (fun _ _ _ h => h) (Or.inl ⟨by kernel_rfl, ?_⟩) hH ?_
              rotate_left 1
              · intro wq hq; obtain ⟨r0, r3, r6, r7, r8⟩ := HRC.out wq hq.1; have rx := HHY.out wq hq.2; clear hq; first | (go_simp; done) | (go_simp; with_reducible rfl)
              simp only [Act.put, List.setIfInBounds_toArray, List.set_cons_zero, List.set_cons_succ]
              refine wpAnyH_done (by kernel_rfl) ?_ _
              clear hH
              have HKD := Lib.hid (HK9.out.on (Below.refl _ _).drew)
              clear HREC9 HHA9 HK9 HRC HEC HSAY HRNG HE HEB HEV
              go_wp2_with fail
              exact ⟨⟨k + 1, S2, _, _, by omega, by omega, by rw [Int.natCast_succ], HKD.out⟩, by simp [intOf]; omega⟩
      · obtain rfl : k = 200 := by omega
        go_wp2_with fail
        go_ret
        exact ⟨rfl, HK3.out.below⟩
    · obtain rfl : k = em := by omega
      go_wp2_with fail
      go_ret
      exact ⟨rfl, HK3.out.below⟩
end Go.Proofs.YtkogjjeoihnjpaaGreat
end
