/- PlicPlays: the walk. No condition. -/
import Derived.Test.YtebdbbpefmgooaaPlicStep
import Derived.Test.YtebdbbpefmgooaaArgsOps
import Derived.StillTailTactics
import Derived.BigRegion
import Derived.Deep.RegionWith
import Derived.Deep.RegionHeld3
import Derived.Deep.MidRow
import Derived.Deep.QuietTactic
import Derived.BigQuiet
import Derived.Deep.LoopGhost
import Derived.Deep.DeepCutAuto
import Derived.Deep.DeepFit
import Derived.Deep.DeepMust
set_option linter.unusedVariables false
set_option linter.unusedSimpArgs false
namespace Go.Proofs.Ytebdbbpefmgooaa
open Go.RowKit
attribute [local go_sem ↓] ld_dev ld_ref ld_plc st_dev st_ref st_plc
attribute [local go_sem] rl_dev rl_ref rl_plc rs_dev rs_ref rs_plc Dev.size_cells Dev.st_ok Dev.c0 Dev.c1 Dev.c2 Dev.c3 Dev.c4 Dev.c5 Dev.c6 Dev.c7 Dev.c8 Dev.c9 Dev.c10 Dev.c11 Dev.c12 Dev.c13 Dev.c14 Dev.c15 Dev.c16 Dev.c17 Dev.c18 Dev.c19 Dev.c20 Dev.c21 Dev.set_pend Dev.set_cla row_alloc row_drew row_drewN is_alloc is_drew is_drewN row_setCell is_setCell setRow_alloc_new objRow_cells objIs_cells row_setRow_same row_setRow_other is_setRow_same is_setRow_other

/-- the calls of the script -/
structure OpsAre (w : World) (a : Option Addr) (len : Nat) (KK OO VV ZZ : Nat → Int) : Prop where
  at_ : ∀ k, k < len → ∃ b o, a = some ⟨b, o, none⟩ ∧ b < w.heap.size ∧ w.rangeAt b (o + k * 4) [.int .i64 (KK k), .int .u64 (OO k), .int .u64 (VV k), .int .i64 (ZZ k)]
  bd : ∀ k, k < len → 0 ≤ OO k ∧ 0 ≤ VV k ∧ VV k < 18446744073709551616
/-- the devices of a PLIC that began as new -/
def NoText (d : Dev) : Prop := d.rxa = none ∧ d.rxl = 0 ∧ d.txa = none ∧ d.txl = 0
theorem noText_step (d : Dev) (h : NoText d) (k off v size : Int) : NoText (d.step k off v size) := by
  unfold Dev.step
  split
  · unfold Dev.read
    repeat' split
    all_goals first | exact h | (unfold Dev.claim; exact h)
  · split
    · unfold Dev.write
      repeat' split
      all_goals exact h
    · exact h
/-- what stands at each round's head -/
def PlaysR (w : World) (d : Dev) (wr : World) : Prop := PlicAt wr w.heap.size d ∧ d.Ok ∧ NoText d ∧ rowIs wr (w.heap.size + 1) 22 = true ∧ rowOf wr (w.heap.size + 1) = d.cells ∧ Below w.heap.size w wr
theorem PlaysR.keep {w wr w' : World} {d : Dev} (h : PlaysR w d wr) (hb : Below wr.heap.size wr w') : PlaysR w d w' := by
  obtain ⟨h1, h2, h3, h4, h5, h6⟩ := h
  exact ⟨blk_below hb (blk_lt h1) h1, h2, h3, by rw [(row_below hb (rowIs_lt h4)).2]; exact h4, by rw [(row_below hb (rowIs_lt h4)).1]; exact h5, below_then h6 hb h6.size⟩
theorem plays_start (w : World) (C E : Array Value) (hC : C.size = 22) (hE : E = dev0.cells) : PlaysR w dev0 (((w.alloc (.cells dev0.cells 102)).alloc (.cells C 61)).setRow (w.heap.size + 1) E) := by
  subst hE
  have hr : rowIs ((w.alloc (.cells dev0.cells 102)).alloc (.cells C 61)) (w.heap.size + 1) 22 = true := by
    rw [is_alloc, if_pos (by simp), objIs_cells, hC]; rfl
  refine ⟨?_, dev0_ok, ⟨rfl, rfl, rfl, rfl⟩, ?_, row_setRow_same _ _ 22 _ hr, ?_⟩
  · exact (setRow_other _ _ _ _ (by omega)).trans ((blk_alloc_old _ _ _ (by simp)).trans (blk_alloc _ _))
  · rw [is_setRow_same _ _ 22 _ _ hr]; rfl
  · exact below_setRow (((Below.refl _ _).alloc (Nat.le_refl _) _).alloc (by simp) _) (by omega) _
theorem plays_next {w X : World} {D : Dev} (h1 : PlicAt X w.heap.size D) (h2 : D.Ok) (h3 : NoText D) (h4 : rowIs X (w.heap.size + 1) 22 = true) (h6 : Below w.heap.size w X) : PlaysR w D (X.setRow (w.heap.size + 1) D.cells) :=
  ⟨(setRow_other _ _ _ _ (by omega)).trans h1, h2, h3, by rw [is_setRow_same _ _ 22 _ _ h4]; rfl, row_setRow_same _ _ 22 _ h4, below_setRow h6 (by omega) _⟩
theorem plic_step_any (d : Dev) (hd : d.Ok) (hn : NoText d) (b : Nat) (k off v size : Int) (o0 : 0 ≤ off) (v0 : 0 ≤ v) (v1 : v < 18446744073709551616) (w : World) (hp : PlicAt w b d) :
    Calls Try.prog 31 #[.pointer (some ⟨b, 0, none⟩), .agg d.cells, .agg #[.int .i64 k, .int .u64 off, .int .u64 v, .int .i64 size]] w (Stepped w b (d.step k off v size)) := by
  have hok := d.step_ok hd k off v size
  have hrx := noText_step d hn k off v size
  by_cases k1 : k = 1
  · subst k1
    exact plic_step1 d hd b off v size o0 v0 v1 w hp _ rfl hok hrx
  · by_cases k2 : k = 2
    · subst k2
      exact plic_step2 d hd b off v size o0 v0 v1 w hp _ rfl hok hrx
    · exact plic_step3 d hd b off v size o0 v0 v1 w hp k (by simpa using k1) (by simpa using k2) _ (by unfold Dev.step; rw [if_neg k1, if_neg k2]) hok hrx
/-- the best of a context, whichever -/
def Dev.bestC (d : Dev) (c : Int) : Nat := if c = 0 then d.best 0 else if c = 1 then d.best 1 else 0
theorem plic_bestC (d : Dev) (hd : d.Ok) (b : Nat) (c : Int) (w : World) (hp : PlicAt w b d) :
    Calls Try.prog 30 #[.pointer (some ⟨b, 0, none⟩), .int .i64 c] w fun e w' => e = .returned (.int .i64 (d.bestC c : Nat)) ∧ Below w.heap.size w w' := by
  unfold Dev.bestC
  by_cases c0 : c = 0
  · subst c0
    exact (plic_best d hd b 0 (by omega) w hp).mono fun e w' ⟨h1, n, h2⟩ => ⟨h1, by rw [h2]; exact drewN_below' _ _⟩
  · by_cases c1 : c = 1
    · subst c1
      exact (plic_best d hd b 1 (by omega) w hp).mono fun e w' ⟨h1, n, h2⟩ => ⟨h1, by rw [h2]; exact drewN_below' _ _⟩
    · rw [if_neg c0, if_neg c1]
      exact (plic_best_out b c (by omega) w).mono fun e w' ⟨h1, h2⟩ => ⟨h1, by rw [← h2]; exact Below.refl _ _⟩
theorem ref_bestC (d : Dev) (hd : d.Ok) (c : Int) (w : World) :
    Calls Try.prog 32 #[.agg d.cells, .int .i64 c] w fun e w' => e = .returned (.int .i64 (d.bestC c : Nat)) ∧ Below w.heap.size w w' := by
  unfold Dev.bestC
  by_cases c0 : c = 0
  · subst c0
    exact ref_best d hd 0 (by omega) w
  · by_cases c1 : c = 1
    · subst c1
      exact ref_best d hd 1 (by omega) w
    · rw [if_neg c0, if_neg c1]
      exact ref_best_out d c ⟨by simpa using c0, by simpa using c1⟩ w
set_option maxRecDepth 100000 in
set_option maxHeartbeats 16000000 in
theorem plic_plays (w : World) (a : Option Addr) (len cap : Nat) (hlen : (len : Int) ≤ 9223372036854775807) (KK OO VV ZZ : Nat → Int) (hops : OpsAre w a len KK OO VV ZZ) (ctx : Int) :
    Calls Try.prog 7 #[.slice a len cap, .int .i64 ctx] w fun e w' => e = .returned (.bool true) ∧ Below w.heap.size w w' := by
  have HOPS := Lib.hid hops
  clear hops
  go_enter Try.func7, Try.ntmps7
  go_wp2_with fail
  refine (plic_new _).mono ?_
  rintro e w1 ⟨rfl, rfl⟩
  have HN := Lib.hid (PlicHere.new w)
  have hz : stOk 22 #[.bool false, .int .u64 0, .int .u64 0, .int .u32 0, .int .u32 0, .int .u32 0, .int .u32 0, .int .u32 0, .int .u32 0, .int .u32 0, .int .u32 0, .int .u32 0, .int .u32 0, .int .u32 0, .int .u32 0, .int .u32 0, .int .u32 0, .int .u32 0, .slice none 0 0, .slice none 0 0, .int .u32 0, .bool false] = true := by simp [stOk, Value.oneCell']
  go_wp2_with fail
  refine (plic_awake _).mono ?_
  rintro e w2 ⟨rfl, hb⟩
  have HS := Lib.hid ((plays_start w _ _ rfl rfl).keep hb)
  clear hb hz HN
  go_wp2_with fail
  go_loopw [7] (fun i wr => ∃ k : Nat, (k : Int) ≤ len ∧ (k : Int) ≤ 300 ∧ i = .int .i64 k ∧ ∃ d, PlaysR w d wr) (fun i _ => len - (intOf i).toNat)
  case atStart => exact ⟨0, by omega, by omega, rfl, _, HS.out⟩
  case round =>
    clear HS
    obtain ⟨k, hk, hk3, rfl, d, hr⟩ := hrel
    have HR := Lib.hid hr
    clear hr
    by_cases hlt : (k : Int) < len
    · by_cases hlt3 : (k : Int) < 300
      · clear hk hk3
        obtain ⟨b, o, rfl, hbl, hrange⟩ := HOPS.out.at_ k (by omega)
        have HRANGE := Lib.hid (show wr.rangeAt b (o + k * 4) [.int .i64 (KK k), .int .u64 (OO k), .int .u64 (VV k), .int .i64 (ZZ k)] from fun j v hv => (HR.out.2.2.2.2.2.cell (p := ⟨b, o + k * 4 + j, none⟩) hbl).trans (hrange j v hv))
        have HBD := Lib.hid (HOPS.out.bd k (by omega))
        have HOK := Lib.hid (d.step_ok HR.out.2.1 (KK k) (OO k) (VV k) (ZZ k))
        have HNT := Lib.hid (noText_step d HR.out.2.2.1 (KK k) (OO k) (VV k) (ZZ k))
        have HBL := Lib.hid hbl
        clear hbl hrange
        generalize hD : d.step (KK k) (OO k) (VV k) (ZZ k) = D at *
        have HDD := Lib.hid hD
        clear hD
        go_wp2_with fail
        refine wp_region_held_drew (S := fun wq => rowIs wq (w.heap.size + 1) 22 = true ∧ rowOf wq (w.heap.size + 1) = d.cells ∧ wq.rangeAt b (o + k * 4) [.int .i64 (KK k), .int .u64 (OO k), .int .u64 (VV k), .int .i64 (ZZ k)]) (by kernel_rfl) ⟨HR.out.2.2.2.1, HR.out.2.2.2.2.1, HRANGE.out⟩ (fun hH => ?_)
        refine wpAnyH_take (i := 0) (oi := ⟨some 29, _, _, _, _, _⟩) (v := ?_) rfl (by kernel_rfl) (by kernel_rfl) (by kernel_rfl) (fun _ _ _ h => h) (Or.inl ⟨by kernel_rfl, ?_⟩) hH ?_
        rotate_left 1
        · intro wq hq; obtain ⟨hq1, hq2, hq3⟩ := hq; have c0 : wq.cell? ⟨b, o + k * 4, none⟩ = some (.int .i64 (KK k)) := hq3 0 _ rfl; have c1 : wq.cell? ⟨b, o + k * 4 + 1, none⟩ = some (.int .u64 (OO k)) := hq3 1 _ rfl; have c2 : wq.cell? ⟨b, o + k * 4 + 1 + 1, none⟩ = some (.int .u64 (VV k)) := hq3 2 _ rfl; have c2p : wq.cell? ⟨b, o + k * 4 + 2, none⟩ = some (.int .u64 (VV k)) := hq3 2 _ rfl; have c3 : wq.cell? ⟨b, o + k * 4 + 1 + 1 + 1, none⟩ = some (.int .i64 (ZZ k)) := hq3 3 _ rfl; have c3p : wq.cell? ⟨b, o + k * 4 + 3, none⟩ = some (.int .i64 (ZZ k)) := hq3 3 _ rfl; clear hq3; first | (go_simp; done) | (go_simp; with_reducible rfl)
        simp only [Act.put, List.setIfInBounds_toArray, List.set_cons_zero, List.set_cons_succ]
        refine wpAnyH_take (i := 2) (oi := ⟨some 31, _, _, _, _, _⟩) (v := ?_) rfl (by kernel_rfl) (by kernel_rfl) (by kernel_rfl) (fun _ _ _ h => h) (Or.inl ⟨by kernel_rfl, ?_⟩) hH ?_
        rotate_left 1
        · intro wq hq; obtain ⟨hq1, hq2, hq3⟩ := hq; have c0 : wq.cell? ⟨b, o + k * 4, none⟩ = some (.int .i64 (KK k)) := hq3 0 _ rfl; have c1 : wq.cell? ⟨b, o + k * 4 + 1, none⟩ = some (.int .u64 (OO k)) := hq3 1 _ rfl; have c2 : wq.cell? ⟨b, o + k * 4 + 1 + 1, none⟩ = some (.int .u64 (VV k)) := hq3 2 _ rfl; have c2p : wq.cell? ⟨b, o + k * 4 + 2, none⟩ = some (.int .u64 (VV k)) := hq3 2 _ rfl; have c3 : wq.cell? ⟨b, o + k * 4 + 1 + 1 + 1, none⟩ = some (.int .i64 (ZZ k)) := hq3 3 _ rfl; have c3p : wq.cell? ⟨b, o + k * 4 + 3, none⟩ = some (.int .i64 (ZZ k)) := hq3 3 _ rfl; clear hq3; first | (go_simp; done) | (go_simp; with_reducible rfl)
        simp only [Act.put, List.setIfInBounds_toArray, List.set_cons_zero, List.set_cons_succ]
        refine wpAnyH_take (i := 3) (oi := ⟨some 32, _, _, _, _, _⟩) (v := ?_) rfl (by kernel_rfl) (by kernel_rfl) (by kernel_rfl) (fun _ _ _ h => h) (Or.inl ⟨by kernel_rfl, ?_⟩) hH ?_
        rotate_left 1
        · intro wq hq; obtain ⟨hq1, hq2, hq3⟩ := hq; have c0 : wq.cell? ⟨b, o + k * 4, none⟩ = some (.int .i64 (KK k)) := hq3 0 _ rfl; have c1 : wq.cell? ⟨b, o + k * 4 + 1, none⟩ = some (.int .u64 (OO k)) := hq3 1 _ rfl; have c2 : wq.cell? ⟨b, o + k * 4 + 1 + 1, none⟩ = some (.int .u64 (VV k)) := hq3 2 _ rfl; have c2p : wq.cell? ⟨b, o + k * 4 + 2, none⟩ = some (.int .u64 (VV k)) := hq3 2 _ rfl; have c3 : wq.cell? ⟨b, o + k * 4 + 1 + 1 + 1, none⟩ = some (.int .i64 (ZZ k)) := hq3 3 _ rfl; have c3p : wq.cell? ⟨b, o + k * 4 + 3, none⟩ = some (.int .i64 (ZZ k)) := hq3 3 _ rfl; clear hq3; first | (go_simp; done) | (go_simp; with_reducible rfl)
        simp only [Act.put, List.setIfInBounds_toArray, List.set_cons_zero, List.set_cons_succ]
        refine wpAnyH_take (i := 4) (oi := ⟨some 33, _, _, _, _, _⟩) (v := ?_) rfl (by kernel_rfl) (by kernel_rfl) (by kernel_rfl) (fun _ _ _ h => h) (Or.inl ⟨by kernel_rfl, ?_⟩) hH ?_
        rotate_left 1
        · intro wq hq; obtain ⟨hq1, hq2, hq3⟩ := hq; have c0 : wq.cell? ⟨b, o + k * 4, none⟩ = some (.int .i64 (KK k)) := hq3 0 _ rfl; have c1 : wq.cell? ⟨b, o + k * 4 + 1, none⟩ = some (.int .u64 (OO k)) := hq3 1 _ rfl; have c2 : wq.cell? ⟨b, o + k * 4 + 1 + 1, none⟩ = some (.int .u64 (VV k)) := hq3 2 _ rfl; have c2p : wq.cell? ⟨b, o + k * 4 + 2, none⟩ = some (.int .u64 (VV k)) := hq3 2 _ rfl; have c3 : wq.cell? ⟨b, o + k * 4 + 1 + 1 + 1, none⟩ = some (.int .i64 (ZZ k)) := hq3 3 _ rfl; have c3p : wq.cell? ⟨b, o + k * 4 + 3, none⟩ = some (.int .i64 (ZZ k)) := hq3 3 _ rfl; clear hq3; first | (go_simp; done) | (go_simp; with_reducible rfl)
        simp only [Act.put, List.setIfInBounds_toArray, List.set_cons_zero, List.set_cons_succ]
        refine wpAnyH_take (i := 1) (oi := ⟨some 30, _, _, _, _, _⟩) (v := ?_) rfl (by kernel_rfl) (by kernel_rfl) (by kernel_rfl) (fun _ _ _ h => h) (Or.inl ⟨by kernel_rfl, ?_⟩) hH ?_
        rotate_left 1
        · intro wq hq; obtain ⟨hq1, hq2, hq3⟩ := hq; have c0 : wq.cell? ⟨b, o + k * 4, none⟩ = some (.int .i64 (KK k)) := hq3 0 _ rfl; have c1 : wq.cell? ⟨b, o + k * 4 + 1, none⟩ = some (.int .u64 (OO k)) := hq3 1 _ rfl; have c2 : wq.cell? ⟨b, o + k * 4 + 1 + 1, none⟩ = some (.int .u64 (VV k)) := hq3 2 _ rfl; have c2p : wq.cell? ⟨b, o + k * 4 + 2, none⟩ = some (.int .u64 (VV k)) := hq3 2 _ rfl; have c3 : wq.cell? ⟨b, o + k * 4 + 1 + 1 + 1, none⟩ = some (.int .i64 (ZZ k)) := hq3 3 _ rfl; have c3p : wq.cell? ⟨b, o + k * 4 + 3, none⟩ = some (.int .i64 (ZZ k)) := hq3 3 _ rfl; clear hq3; first | (go_simp; done) | (go_simp; with_reducible rfl)
        simp only [Act.put, List.setIfInBounds_toArray, List.set_cons_zero, List.set_cons_succ]
        refine wpAnyH_take (i := 5) (oi := ⟨some 34, _, _, _, _, _⟩) (v := ?_) rfl (by kernel_rfl) (by kernel_rfl) (by kernel_rfl) (fun _ _ _ h => h) (Or.inl ⟨by kernel_rfl, ?_⟩) hH ?_
        rotate_left 1
        · intro wq hq; obtain ⟨hq1, hq2, hq3⟩ := hq; have c0 : wq.cell? ⟨b, o + k * 4, none⟩ = some (.int .i64 (KK k)) := hq3 0 _ rfl; have c1 : wq.cell? ⟨b, o + k * 4 + 1, none⟩ = some (.int .u64 (OO k)) := hq3 1 _ rfl; have c2 : wq.cell? ⟨b, o + k * 4 + 1 + 1, none⟩ = some (.int .u64 (VV k)) := hq3 2 _ rfl; have c2p : wq.cell? ⟨b, o + k * 4 + 2, none⟩ = some (.int .u64 (VV k)) := hq3 2 _ rfl; have c3 : wq.cell? ⟨b, o + k * 4 + 1 + 1 + 1, none⟩ = some (.int .i64 (ZZ k)) := hq3 3 _ rfl; have c3p : wq.cell? ⟨b, o + k * 4 + 3, none⟩ = some (.int .i64 (ZZ k)) := hq3 3 _ rfl; clear hq3; first | (go_simp; done) | (go_simp; with_reducible rfl)
        simp only [Act.put, List.setIfInBounds_toArray, List.set_cons_zero, List.set_cons_succ]
        refine wpAnyH_ready (rs := [6, 10]) (by kernel_rfl) (by simp) (AllReadyH.cons (o := ⟨some 35, _, _, _, _, _⟩) rfl (fun K hK => ?_) (AllReadyH.cons (o := ⟨some 8, _, _, _, _, _⟩) rfl (fun K hK => ?_) AllReadyH.nil))
        · go_simp
          refine (plic_step_any d HR.out.2.1 HR.out.2.2.1 w.heap.size (KK k) (OO k) (VV k) (ZZ k) HBD.out.1 HBD.out.2.1 HBD.out.2.2 wr.drew (show PlicAt wr.drew w.heap.size d from HR.out.1)).mono ?_
          rintro e w3 ⟨rfl, hp3, hg3⟩
          rw [HDD.out] at hp3 ⊢
          go_wp2_with fail
          refine hK.out _ _ ?_ (fun hH => ?_)
          · obtain ⟨x1, x2, _⟩ := row_grown hg3 (rowIs_lt hH.1) (by omega)
            refine ⟨by rw [x2]; exact hH.1, by rw [x1]; exact hH.2.1, fun j v hv => ?_⟩
            have h0 := hH.2.2 j v hv
            exact ((row_grown (g := b) hg3 (World.block_lt_of_cell? _ _ h0) (by have := HBL.out; omega)).2.2 _).trans h0
          have HS3 := Lib.hid hH
          have HP3 := Lib.hid hp3
          have HG3 := Lib.hid hg3
          clear hp3 hg3
          clear hK K
          try simp only [Act.put, List.setIfInBounds_toArray, List.set_cons_zero, List.set_cons_succ]
          refine wpAnyH_take (i := 7) (oi := ⟨some 28, _, _, _, _, _⟩) (v := ?_) rfl (by kernel_rfl) (by kernel_rfl) (by kernel_rfl) (fun _ _ _ h => h) (Or.inl ⟨by kernel_rfl, ?_⟩) hH ?_
          rotate_left 1
          · intro wq hq; obtain ⟨hq1, hq2, hq3⟩ := hq; have c0 : wq.cell? ⟨b, o + k * 4, none⟩ = some (.int .i64 (KK k)) := hq3 0 _ rfl; have c1 : wq.cell? ⟨b, o + k * 4 + 1, none⟩ = some (.int .u64 (OO k)) := hq3 1 _ rfl; have c2 : wq.cell? ⟨b, o + k * 4 + 1 + 1, none⟩ = some (.int .u64 (VV k)) := hq3 2 _ rfl; have c2p : wq.cell? ⟨b, o + k * 4 + 2, none⟩ = some (.int .u64 (VV k)) := hq3 2 _ rfl; have c3 : wq.cell? ⟨b, o + k * 4 + 1 + 1 + 1, none⟩ = some (.int .i64 (ZZ k)) := hq3 3 _ rfl; have c3p : wq.cell? ⟨b, o + k * 4 + 3, none⟩ = some (.int .i64 (ZZ k)) := hq3 3 _ rfl; clear hq3; first | (go_simp; done) | (go_simp; with_reducible rfl)
          simp only [Act.put, List.setIfInBounds_toArray, List.set_cons_zero, List.set_cons_succ]
          refine wpAnyH_take (i := 8) (oi := ⟨some 36, _, _, _, _, _⟩) (v := ?_) rfl (by kernel_rfl) (by kernel_rfl) (by kernel_rfl) (fun _ _ _ h => h) (Or.inl ⟨by kernel_rfl, ?_⟩) hH ?_
          rotate_left 1
          · intro wq hq; obtain ⟨hq1, hq2, hq3⟩ := hq; have c0 : wq.cell? ⟨b, o + k * 4, none⟩ = some (.int .i64 (KK k)) := hq3 0 _ rfl; have c1 : wq.cell? ⟨b, o + k * 4 + 1, none⟩ = some (.int .u64 (OO k)) := hq3 1 _ rfl; have c2 : wq.cell? ⟨b, o + k * 4 + 1 + 1, none⟩ = some (.int .u64 (VV k)) := hq3 2 _ rfl; have c2p : wq.cell? ⟨b, o + k * 4 + 2, none⟩ = some (.int .u64 (VV k)) := hq3 2 _ rfl; have c3 : wq.cell? ⟨b, o + k * 4 + 1 + 1 + 1, none⟩ = some (.int .i64 (ZZ k)) := hq3 3 _ rfl; have c3p : wq.cell? ⟨b, o + k * 4 + 3, none⟩ = some (.int .i64 (ZZ k)) := hq3 3 _ rfl; clear hq3; first | (go_simp; done) | (go_simp; with_reducible rfl)
          simp only [Act.put, List.setIfInBounds_toArray, List.set_cons_zero, List.set_cons_succ]
          refine wpAnyH_take (i := 9) (oi := ⟨some 37, _, _, _, _, _⟩) (v := ?_) rfl (by kernel_rfl) (by kernel_rfl) (by kernel_rfl) (fun _ _ _ h => h) (Or.inl ⟨by kernel_rfl, ?_⟩) hH ?_
          rotate_left 1
          · intro wq hq; obtain ⟨hq1, hq2, hq3⟩ := hq; have c0 : wq.cell? ⟨b, o + k * 4, none⟩ = some (.int .i64 (KK k)) := hq3 0 _ rfl; have c1 : wq.cell? ⟨b, o + k * 4 + 1, none⟩ = some (.int .u64 (OO k)) := hq3 1 _ rfl; have c2 : wq.cell? ⟨b, o + k * 4 + 1 + 1, none⟩ = some (.int .u64 (VV k)) := hq3 2 _ rfl; have c2p : wq.cell? ⟨b, o + k * 4 + 2, none⟩ = some (.int .u64 (VV k)) := hq3 2 _ rfl; have c3 : wq.cell? ⟨b, o + k * 4 + 1 + 1 + 1, none⟩ = some (.int .i64 (ZZ k)) := hq3 3 _ rfl; have c3p : wq.cell? ⟨b, o + k * 4 + 3, none⟩ = some (.int .i64 (ZZ k)) := hq3 3 _ rfl; clear hq3; first | (go_simp; done) | (go_simp; with_reducible rfl)
          simp only [Act.put, List.setIfInBounds_toArray, List.set_cons_zero, List.set_cons_succ]
          refine wpAnyH_ready (rs := [10]) (by kernel_rfl) (by simp) (AllReadyH.cons (o := ⟨some 8, _, _, _, _, _⟩) rfl (fun K hK => ?_) AllReadyH.nil)
          go_simp
          refine hK.out _ _ ?_ (fun hH => ?_)
          · have hb := (Below.refl w3.heap.size w3).alloc (Nat.le_refl _)
            refine ⟨by rw [(row_below (hb _) (rowIs_lt hH.1)).2]; exact hH.1, by rw [(row_below (hb _) (rowIs_lt hH.1)).1]; exact hH.2.1, fun j v hv => ?_⟩
            have h0 := hH.2.2 j v hv
            exact ((hb _).cell (World.block_lt_of_cell? _ _ h0)).trans h0
          clear hK K
          try simp only [Act.put, List.setIfInBounds_toArray, List.set_cons_zero, List.set_cons_succ]
          refine wpAnyH_ready (rs := [11]) (by kernel_rfl) (by simp) (AllReadyH.cons (o := ⟨none, _, _, _, _, _⟩) rfl (fun K hK => ?_) AllReadyH.nil)
          go_simp
          refine hK.out _ _ ?_ (fun hH => ?_)
          · have hb := (Below.refl w3.heap.size w3).alloc (Nat.le_refl _)
            have hH := HS3.out
            refine ⟨by rw [(row_below (hb _) (rowIs_lt hH.1)).2]; exact hH.1, by rw [(row_below (hb _) (rowIs_lt hH.1)).1]; exact hH.2.1, fun j v hv => ?_⟩
            have h0 := hH.2.2 j v hv
            exact ((hb _).cell (World.block_lt_of_cell? _ _ h0)).trans h0
          clear hK K
          try simp only [Act.put, List.setIfInBounds_toArray, List.set_cons_zero, List.set_cons_succ]
          refine wpAnyH_take (i := 12) (oi := ⟨some 9, _, _, _, _, _⟩) (v := ?_) rfl (by kernel_rfl) (by kernel_rfl) (by kernel_rfl) (fun _ _ _ h => h) (Or.inl ⟨by kernel_rfl, ?_⟩) hH ?_
          rotate_left 1
          · intro wq hq; obtain ⟨hq1, hq2, hq3⟩ := hq; have c0 : wq.cell? ⟨b, o + k * 4, none⟩ = some (.int .i64 (KK k)) := hq3 0 _ rfl; have c1 : wq.cell? ⟨b, o + k * 4 + 1, none⟩ = some (.int .u64 (OO k)) := hq3 1 _ rfl; have c2 : wq.cell? ⟨b, o + k * 4 + 1 + 1, none⟩ = some (.int .u64 (VV k)) := hq3 2 _ rfl; have c2p : wq.cell? ⟨b, o + k * 4 + 2, none⟩ = some (.int .u64 (VV k)) := hq3 2 _ rfl; have c3 : wq.cell? ⟨b, o + k * 4 + 1 + 1 + 1, none⟩ = some (.int .i64 (ZZ k)) := hq3 3 _ rfl; have c3p : wq.cell? ⟨b, o + k * 4 + 3, none⟩ = some (.int .i64 (ZZ k)) := hq3 3 _ rfl; clear hq3; first | (go_simp; done) | (go_simp; with_reducible rfl)
          simp only [Act.put, List.setIfInBounds_toArray, List.set_cons_zero, List.set_cons_succ]
          refine wpAnyH_done (by kernel_rfl) ?_ _
          have r4 := HS3.out.1
          have l4 := rowIs_lt r4
          have HNX : Hid (PlaysR w D ((w3.alloc (.cells D.cells 61)).setRow (w.heap.size + 1) D.cells).drew) := by
            have hB3 : Below w.heap.size w w3 := HR.out.2.2.2.2.2.drew.grown HG3.out (Nat.le_of_lt (Nat.lt_of_le_of_lt (Nat.le_succ _) (by have := HR.out.2.2.2.2.2.size; have := rowIs_lt HR.out.2.2.2.1; simp; omega))) (by rintro g ⟨⟩; exact Nat.le_refl _)
            refine PlaysR.keep (plays_next (blk_below ((Below.refl _ _).alloc (Nat.le_refl _) _) (blk_lt HP3.out) HP3.out) HOK.out HNT.out ?_ (hB3.alloc hB3.size _)) ⟨rfl, rfl, rfl, Nat.le_refl _, fun _ _ => rfl⟩
            rw [is_alloc, if_neg (by omega)]
            exact r4
          clear hH
          go_wp2_with fail
          refine wp_region_held_drew (S := fun wq => PlaysR w D wq) (by kernel_rfl) HNX.out (fun hR => ?_)
          refine wpAnyH_take (i := 0) (oi := ⟨some 39, _, _, _, _, _⟩) (v := ?_) rfl (by kernel_rfl) (by kernel_rfl) (by kernel_rfl) (fun _ _ _ h => h) (Or.inl ⟨by kernel_rfl, ?_⟩) hR ?_
          rotate_left 1
          · intro wq hq; have hq4 := hq.2.2.2.1; have hq5 := hq.2.2.2.2.1; first | (go_simp; done) | (go_simp; with_reducible rfl)
          simp only [Act.put, List.setIfInBounds_toArray, List.set_cons_zero, List.set_cons_succ]
          refine wpAnyH_take (i := 1) (oi := ⟨some 40, _, _, _, _, _⟩) (v := ?_) rfl (by kernel_rfl) (by kernel_rfl) (by kernel_rfl) (fun _ _ _ h => h) (Or.inl ⟨by kernel_rfl, ?_⟩) hR ?_
          rotate_left 1
          · intro wq hq; have hq4 := hq.2.2.2.1; have hq5 := hq.2.2.2.2.1; first | (go_simp; done) | (go_simp; with_reducible rfl)
          simp only [Act.put, List.setIfInBounds_toArray, List.set_cons_zero, List.set_cons_succ]
          refine wpAnyH_take (i := 2) (oi := ⟨some 41, _, _, _, _, _⟩) (v := ?_) rfl (by kernel_rfl) (by kernel_rfl) (by kernel_rfl) (fun _ _ _ h => h) (Or.inl ⟨by kernel_rfl, ?_⟩) hR ?_
          rotate_left 1
          · intro wq hq; have hq4 := hq.2.2.2.1; have hq5 := hq.2.2.2.2.1; first | (go_simp; done) | (go_simp; with_reducible rfl)
          simp only [Act.put, List.setIfInBounds_toArray, List.set_cons_zero, List.set_cons_succ]
          refine wpAnyH_take (i := 3) (oi := ⟨some 42, _, _, _, _, _⟩) (v := ?_) rfl (by kernel_rfl) (by kernel_rfl) (by kernel_rfl) (fun _ _ _ h => h) (Or.inl ⟨by kernel_rfl, ?_⟩) hR ?_
          rotate_left 1
          · intro wq hq; have hq4 := hq.2.2.2.1; have hq5 := hq.2.2.2.2.1; first | (go_simp; done) | (go_simp; with_reducible rfl)
          simp only [Act.put, List.setIfInBounds_toArray, List.set_cons_zero, List.set_cons_succ]
          refine wpAnyH_take (i := 4) (oi := ⟨some 43, _, _, _, _, _⟩) (v := ?_) rfl (by kernel_rfl) (by kernel_rfl) (by kernel_rfl) (fun _ _ _ h => h) (Or.inl ⟨by kernel_rfl, ?_⟩) hR ?_
          rotate_left 1
          · intro wq hq; have hq4 := hq.2.2.2.1; have hq5 := hq.2.2.2.2.1; first | (go_simp; done) | (go_simp; with_reducible rfl)
          simp only [Act.put, List.setIfInBounds_toArray, List.set_cons_zero, List.set_cons_succ]
          refine wpAnyH_take (i := 6) (oi := ⟨some 45, _, _, _, _, _⟩) (v := ?_) rfl (by kernel_rfl) (by kernel_rfl) (by kernel_rfl) (fun _ _ _ h => h) (Or.inl ⟨by kernel_rfl, ?_⟩) hR ?_
          rotate_left 1
          · intro wq hq; have hq4 := hq.2.2.2.1; have hq5 := hq.2.2.2.2.1; first | (go_simp; done) | (go_simp; with_reducible rfl)
          simp only [Act.put, List.setIfInBounds_toArray, List.set_cons_zero, List.set_cons_succ]
          refine wpAnyH_take (i := 7) (oi := ⟨some 46, _, _, _, _, _⟩) (v := ?_) rfl (by kernel_rfl) (by kernel_rfl) (by kernel_rfl) (fun _ _ _ h => h) (Or.inl ⟨by kernel_rfl, ?_⟩) hR ?_
          rotate_left 1
          · intro wq hq; have hq4 := hq.2.2.2.1; have hq5 := hq.2.2.2.2.1; first | (go_simp; done) | (go_simp; with_reducible rfl)
          simp only [Act.put, List.setIfInBounds_toArray, List.set_cons_zero, List.set_cons_succ]
          refine wpAnyH_ready (rs := [5]) (by kernel_rfl) (by simp) (AllReadyH.cons (o := ⟨some 44, _, _, _, _, _⟩) rfl (fun K hK => ?_) AllReadyH.nil)
          go_simp
          refine (plic_bestC D HOK.out w.heap.size ctx _ hR.1).mono ?_
          rintro e wa ⟨rfl, ha⟩
          go_wp2_with fail
          refine hK.out _ _ ?_ (fun hR => ?_)
          · exact PlaysR.keep hR ha
          clear hK K
          try simp only [Act.put, List.setIfInBounds_toArray, List.set_cons_zero, List.set_cons_succ]
          refine wpAnyH_ready (rs := [8]) (by kernel_rfl) (by simp) (AllReadyH.cons (o := ⟨some 47, _, _, _, _, _⟩) rfl (fun K hK => ?_) AllReadyH.nil)
          go_simp
          refine (ref_bestC D HOK.out ctx _).mono ?_
          rintro e wa ⟨rfl, ha⟩
          go_wp2_with fail
          refine hK.out _ _ ?_ (fun hR => ?_)
          · exact PlaysR.keep hR ha
          clear hK K
          try simp only [Act.put, List.setIfInBounds_toArray, List.set_cons_zero, List.set_cons_succ]
          refine wpAnyH_take (i := 9) (oi := ⟨some 48, _, _, _, _, _⟩) (v := ?_) rfl (by kernel_rfl) (by kernel_rfl) (by kernel_rfl) (fun _ _ _ h => h) (Or.inl ⟨by kernel_rfl, ?_⟩) hR ?_
          rotate_left 1
          · intro wq hq; have hq4 := hq.2.2.2.1; have hq5 := hq.2.2.2.2.1; first | (go_simp; done) | (go_simp; with_reducible rfl)
          simp only [Act.put, List.setIfInBounds_toArray, List.set_cons_zero, List.set_cons_succ]
          refine wpAnyH_take (i := 10) (oi := ⟨some 49, _, _, _, _, _⟩) (v := ?_) rfl (by kernel_rfl) (by kernel_rfl) (by kernel_rfl) (fun _ _ _ h => h) (Or.inl ⟨by kernel_rfl, ?_⟩) hR ?_
          rotate_left 1
          · intro wq hq; have hq4 := hq.2.2.2.1; have hq5 := hq.2.2.2.2.1; first | (go_simp; done) | (go_simp; with_reducible rfl)
          simp only [Act.put, List.setIfInBounds_toArray, List.set_cons_zero, List.set_cons_succ]
          refine wpAnyH_done (by kernel_rfl) ?_ _
          clear r4 l4
          go_wp2_with fail
          exact ⟨⟨k + 1, by omega, by omega, by rw [Int.natCast_succ], D, hR⟩, by simp [intOf]; omega⟩
        · go_simp
          refine hK.out _ _ ?_ (fun hH => ?_)
          · have hb := fun ob => (Below.refl wr.heap.size wr).alloc (Nat.le_refl _) ob
            exact ⟨((row_below (hb _) (rowIs_lt hH.1)).2 22).trans hH.1, (row_below (hb _) (rowIs_lt hH.1)).1.trans hH.2.1, fun j v hv => ((hb _).cell (World.block_lt_of_cell? _ _ (hH.2.2 j v hv))).trans (hH.2.2 j v hv)⟩
          have HX : Hid (rowIs (wr.drew.alloc (.cells #[.bool false, .int .u64 0, .int .u64 0, .int .u32 0, .int .u32 0, .int .u32 0, .int .u32 0, .int .u32 0, .int .u32 0, .int .u32 0, .int .u32 0, .int .u32 0, .int .u32 0, .int .u32 0, .int .u32 0, .int .u32 0, .int .u32 0, .int .u32 0, .slice none 0 0, .slice none 0 0, .int .u32 0, .bool false] 61)) wr.heap.size 22 = true) := by
            show _ = _
            rw [is_alloc, if_pos (by rfl), objIs_cells]
            rfl
          clear hK K
          try simp only [Act.put, List.setIfInBounds_toArray, List.set_cons_zero, List.set_cons_succ]
          refine wpAnyH_ready (rs := [6]) (by kernel_rfl) (by simp) (AllReadyH.cons (o := ⟨some 35, _, _, _, _, _⟩) rfl (fun K hK => ?_) AllReadyH.nil)
          go_simp
          refine (plic_step_any d HR.out.2.1 HR.out.2.2.1 w.heap.size (KK k) (OO k) (VV k) (ZZ k) HBD.out.1 HBD.out.2.1 HBD.out.2.2 _ (blk_below ((Below.refl wr.drew.heap.size wr.drew).alloc (Nat.le_refl _) _) (blk_lt HR.out.1) HR.out.1)).mono ?_
          rintro e w3 ⟨rfl, hp3, hg3⟩
          rw [HDD.out] at hp3 ⊢
          go_wp2_with fail
          refine hK.out _ _ ?_ (fun hH => ?_)
          · obtain ⟨x1, x2, _⟩ := row_grown hg3 (rowIs_lt hH.1) (by omega)
            refine ⟨by rw [x2]; exact hH.1, by rw [x1]; exact hH.2.1, fun j v hv => ?_⟩
            have h0 := hH.2.2 j v hv
            exact ((row_grown (g := b) hg3 (World.block_lt_of_cell? _ _ h0) (by have := HBL.out; omega)).2.2 _).trans h0
          have hlb := HR.out.2.2.2.2.2.size
          have hlt4 := rowIs_lt HR.out.2.2.2.1
          have HX3 := Lib.hid ((row_grown hg3 (rowIs_lt HX.out) (by omega)).2.1 22 |>.trans HX.out)
          have HS3 := Lib.hid hH
          have HP3 := Lib.hid hp3
          have HG3 := Lib.hid (grown_trans (below_grown ((Below.refl wr.drew.heap.size wr.drew).alloc (Nat.le_refl _) _) _) hg3)
          clear hp3 hg3
          clear hK K
          try simp only [Act.put, List.setIfInBounds_toArray, List.set_cons_zero, List.set_cons_succ]
          refine wpAnyH_take (i := 7) (oi := ⟨some 28, _, _, _, _, _⟩) (v := ?_) rfl (by kernel_rfl) (by kernel_rfl) (by kernel_rfl) (fun _ _ _ h => h) (Or.inl ⟨by kernel_rfl, ?_⟩) hH ?_
          rotate_left 1
          · intro wq hq; obtain ⟨hq1, hq2, hq3⟩ := hq; have c0 : wq.cell? ⟨b, o + k * 4, none⟩ = some (.int .i64 (KK k)) := hq3 0 _ rfl; have c1 : wq.cell? ⟨b, o + k * 4 + 1, none⟩ = some (.int .u64 (OO k)) := hq3 1 _ rfl; have c2 : wq.cell? ⟨b, o + k * 4 + 1 + 1, none⟩ = some (.int .u64 (VV k)) := hq3 2 _ rfl; have c2p : wq.cell? ⟨b, o + k * 4 + 2, none⟩ = some (.int .u64 (VV k)) := hq3 2 _ rfl; have c3 : wq.cell? ⟨b, o + k * 4 + 1 + 1 + 1, none⟩ = some (.int .i64 (ZZ k)) := hq3 3 _ rfl; have c3p : wq.cell? ⟨b, o + k * 4 + 3, none⟩ = some (.int .i64 (ZZ k)) := hq3 3 _ rfl; clear hq3; first | (go_simp; done) | (go_simp; with_reducible rfl)
          simp only [Act.put, List.setIfInBounds_toArray, List.set_cons_zero, List.set_cons_succ]
          refine wpAnyH_take (i := 8) (oi := ⟨some 36, _, _, _, _, _⟩) (v := ?_) rfl (by kernel_rfl) (by kernel_rfl) (by kernel_rfl) (fun _ _ _ h => h) (Or.inl ⟨by kernel_rfl, ?_⟩) hH ?_
          rotate_left 1
          · intro wq hq; obtain ⟨hq1, hq2, hq3⟩ := hq; have c0 : wq.cell? ⟨b, o + k * 4, none⟩ = some (.int .i64 (KK k)) := hq3 0 _ rfl; have c1 : wq.cell? ⟨b, o + k * 4 + 1, none⟩ = some (.int .u64 (OO k)) := hq3 1 _ rfl; have c2 : wq.cell? ⟨b, o + k * 4 + 1 + 1, none⟩ = some (.int .u64 (VV k)) := hq3 2 _ rfl; have c2p : wq.cell? ⟨b, o + k * 4 + 2, none⟩ = some (.int .u64 (VV k)) := hq3 2 _ rfl; have c3 : wq.cell? ⟨b, o + k * 4 + 1 + 1 + 1, none⟩ = some (.int .i64 (ZZ k)) := hq3 3 _ rfl; have c3p : wq.cell? ⟨b, o + k * 4 + 3, none⟩ = some (.int .i64 (ZZ k)) := hq3 3 _ rfl; clear hq3; first | (go_simp; done) | (go_simp; with_reducible rfl)
          simp only [Act.put, List.setIfInBounds_toArray, List.set_cons_zero, List.set_cons_succ]
          refine wpAnyH_take (i := 9) (oi := ⟨some 37, _, _, _, _, _⟩) (v := ?_) rfl (by kernel_rfl) (by kernel_rfl) (by kernel_rfl) (fun _ _ _ h => h) (Or.inl ⟨by kernel_rfl, ?_⟩) hH ?_
          rotate_left 1
          · intro wq hq; obtain ⟨hq1, hq2, hq3⟩ := hq; have c0 : wq.cell? ⟨b, o + k * 4, none⟩ = some (.int .i64 (KK k)) := hq3 0 _ rfl; have c1 : wq.cell? ⟨b, o + k * 4 + 1, none⟩ = some (.int .u64 (OO k)) := hq3 1 _ rfl; have c2 : wq.cell? ⟨b, o + k * 4 + 1 + 1, none⟩ = some (.int .u64 (VV k)) := hq3 2 _ rfl; have c2p : wq.cell? ⟨b, o + k * 4 + 2, none⟩ = some (.int .u64 (VV k)) := hq3 2 _ rfl; have c3 : wq.cell? ⟨b, o + k * 4 + 1 + 1 + 1, none⟩ = some (.int .i64 (ZZ k)) := hq3 3 _ rfl; have c3p : wq.cell? ⟨b, o + k * 4 + 3, none⟩ = some (.int .i64 (ZZ k)) := hq3 3 _ rfl; clear hq3; first | (go_simp; done) | (go_simp; with_reducible rfl)
          simp only [Act.put, List.setIfInBounds_toArray, List.set_cons_zero, List.set_cons_succ]
          refine wpAnyH_ready (rs := [11]) (by kernel_rfl) (by simp) (AllReadyH.cons (o := ⟨none, _, _, _, _, _⟩) rfl (fun K hK => ?_) AllReadyH.nil)
          have g8 := HX3.out
          go_simp
          refine hK.out _ _ ?_ (fun hH => ?_)
          · refine ⟨by rw [is_setRow_other _ _ _ _ _ (by omega)]; exact HS3.out.1, by rw [row_setRow_other _ _ _ _ (by omega)]; exact HS3.out.2.1, fun j v hv => ?_⟩
            exact (cell_setRow_other _ _ _ _ _ (by have := HBL.out; omega)).trans (HS3.out.2.2 j v hv)
          clear hK K
          try simp only [Act.put, List.setIfInBounds_toArray, List.set_cons_zero, List.set_cons_succ]
          refine wpAnyH_take (i := 12) (oi := ⟨some 9, _, _, _, _, _⟩) (v := ?_) rfl (by kernel_rfl) (by kernel_rfl) (by kernel_rfl) (fun _ _ _ h => h) (Or.inl ⟨by kernel_rfl, ?_⟩) hH ?_
          rotate_left 1
          · intro wq hq; obtain ⟨hq1, hq2, hq3⟩ := hq; have c0 : wq.cell? ⟨b, o + k * 4, none⟩ = some (.int .i64 (KK k)) := hq3 0 _ rfl; have c1 : wq.cell? ⟨b, o + k * 4 + 1, none⟩ = some (.int .u64 (OO k)) := hq3 1 _ rfl; have c2 : wq.cell? ⟨b, o + k * 4 + 1 + 1, none⟩ = some (.int .u64 (VV k)) := hq3 2 _ rfl; have c2p : wq.cell? ⟨b, o + k * 4 + 2, none⟩ = some (.int .u64 (VV k)) := hq3 2 _ rfl; have c3 : wq.cell? ⟨b, o + k * 4 + 1 + 1 + 1, none⟩ = some (.int .i64 (ZZ k)) := hq3 3 _ rfl; have c3p : wq.cell? ⟨b, o + k * 4 + 3, none⟩ = some (.int .i64 (ZZ k)) := hq3 3 _ rfl; clear hq3; first | (go_simp; done) | (go_simp; with_reducible rfl)
          simp only [Act.put, List.setIfInBounds_toArray, List.set_cons_zero, List.set_cons_succ]
          refine wpAnyH_done (by kernel_rfl) ?_ _
          have r4 := HS3.out.1
          have l4 := rowIs_lt r4
          have g8 := HX3.out
          have hro : rowOf (w3.setRow wr.heap.size D.cells) wr.heap.size = D.cells := row_setRow_same _ _ 22 _ g8
          have his : rowIs (w3.setRow wr.heap.size D.cells) wr.heap.size 22 = true := by rw [is_setRow_same _ _ 22 _ _ g8]; rfl
          have his4 : rowIs (w3.setRow wr.heap.size D.cells) (w.heap.size + 1) 22 = true := by rw [is_setRow_other _ _ _ _ _ (by omega)]; exact r4
          have HNX : Hid (PlaysR w D ((w3.setRow wr.heap.size D.cells).setRow (w.heap.size + 1) D.cells).drew) := by
            have hB3 : Below w.heap.size w w3 := HR.out.2.2.2.2.2.drew.grown HG3.out (Nat.le_of_lt (Nat.lt_of_le_of_lt (Nat.le_succ _) (by have := HR.out.2.2.2.2.2.size; have := rowIs_lt HR.out.2.2.2.1; simp; omega))) (by rintro g ⟨⟩; exact Nat.le_refl _)
            refine PlaysR.keep (plays_next ((setRow_other _ _ _ _ (by omega)).trans HP3.out) HOK.out HNT.out ?_ (below_setRow hB3 (by omega) _)) ⟨rfl, rfl, rfl, Nat.le_refl _, fun _ _ => rfl⟩
            rw [is_setRow_other _ _ _ _ _ (by omega)]
            exact r4
          clear hH
          go_wp2_with fail
          refine wp_region_held_drew (S := fun wq => PlaysR w D wq) (by kernel_rfl) HNX.out (fun hR => ?_)
          refine wpAnyH_take (i := 0) (oi := ⟨some 39, _, _, _, _, _⟩) (v := ?_) rfl (by kernel_rfl) (by kernel_rfl) (by kernel_rfl) (fun _ _ _ h => h) (Or.inl ⟨by kernel_rfl, ?_⟩) hR ?_
          rotate_left 1
          · intro wq hq; have hq4 := hq.2.2.2.1; have hq5 := hq.2.2.2.2.1; first | (go_simp; done) | (go_simp; with_reducible rfl)
          simp only [Act.put, List.setIfInBounds_toArray, List.set_cons_zero, List.set_cons_succ]
          refine wpAnyH_take (i := 1) (oi := ⟨some 40, _, _, _, _, _⟩) (v := ?_) rfl (by kernel_rfl) (by kernel_rfl) (by kernel_rfl) (fun _ _ _ h => h) (Or.inl ⟨by kernel_rfl, ?_⟩) hR ?_
          rotate_left 1
          · intro wq hq; have hq4 := hq.2.2.2.1; have hq5 := hq.2.2.2.2.1; first | (go_simp; done) | (go_simp; with_reducible rfl)
          simp only [Act.put, List.setIfInBounds_toArray, List.set_cons_zero, List.set_cons_succ]
          refine wpAnyH_take (i := 2) (oi := ⟨some 41, _, _, _, _, _⟩) (v := ?_) rfl (by kernel_rfl) (by kernel_rfl) (by kernel_rfl) (fun _ _ _ h => h) (Or.inl ⟨by kernel_rfl, ?_⟩) hR ?_
          rotate_left 1
          · intro wq hq; have hq4 := hq.2.2.2.1; have hq5 := hq.2.2.2.2.1; first | (go_simp; done) | (go_simp; with_reducible rfl)
          simp only [Act.put, List.setIfInBounds_toArray, List.set_cons_zero, List.set_cons_succ]
          refine wpAnyH_take (i := 3) (oi := ⟨some 42, _, _, _, _, _⟩) (v := ?_) rfl (by kernel_rfl) (by kernel_rfl) (by kernel_rfl) (fun _ _ _ h => h) (Or.inl ⟨by kernel_rfl, ?_⟩) hR ?_
          rotate_left 1
          · intro wq hq; have hq4 := hq.2.2.2.1; have hq5 := hq.2.2.2.2.1; first | (go_simp; done) | (go_simp; with_reducible rfl)
          simp only [Act.put, List.setIfInBounds_toArray, List.set_cons_zero, List.set_cons_succ]
          refine wpAnyH_take (i := 4) (oi := ⟨some 43, _, _, _, _, _⟩) (v := ?_) rfl (by kernel_rfl) (by kernel_rfl) (by kernel_rfl) (fun _ _ _ h => h) (Or.inl ⟨by kernel_rfl, ?_⟩) hR ?_
          rotate_left 1
          · intro wq hq; have hq4 := hq.2.2.2.1; have hq5 := hq.2.2.2.2.1; first | (go_simp; done) | (go_simp; with_reducible rfl)
          simp only [Act.put, List.setIfInBounds_toArray, List.set_cons_zero, List.set_cons_succ]
          refine wpAnyH_take (i := 6) (oi := ⟨some 45, _, _, _, _, _⟩) (v := ?_) rfl (by kernel_rfl) (by kernel_rfl) (by kernel_rfl) (fun _ _ _ h => h) (Or.inl ⟨by kernel_rfl, ?_⟩) hR ?_
          rotate_left 1
          · intro wq hq; have hq4 := hq.2.2.2.1; have hq5 := hq.2.2.2.2.1; first | (go_simp; done) | (go_simp; with_reducible rfl)
          simp only [Act.put, List.setIfInBounds_toArray, List.set_cons_zero, List.set_cons_succ]
          refine wpAnyH_take (i := 7) (oi := ⟨some 46, _, _, _, _, _⟩) (v := ?_) rfl (by kernel_rfl) (by kernel_rfl) (by kernel_rfl) (fun _ _ _ h => h) (Or.inl ⟨by kernel_rfl, ?_⟩) hR ?_
          rotate_left 1
          · intro wq hq; have hq4 := hq.2.2.2.1; have hq5 := hq.2.2.2.2.1; first | (go_simp; done) | (go_simp; with_reducible rfl)
          simp only [Act.put, List.setIfInBounds_toArray, List.set_cons_zero, List.set_cons_succ]
          refine wpAnyH_ready (rs := [5]) (by kernel_rfl) (by simp) (AllReadyH.cons (o := ⟨some 44, _, _, _, _, _⟩) rfl (fun K hK => ?_) AllReadyH.nil)
          go_simp
          refine (plic_bestC D HOK.out w.heap.size ctx _ hR.1).mono ?_
          rintro e wa ⟨rfl, ha⟩
          go_wp2_with fail
          refine hK.out _ _ ?_ (fun hR => ?_)
          · exact PlaysR.keep hR ha
          clear hK K
          try simp only [Act.put, List.setIfInBounds_toArray, List.set_cons_zero, List.set_cons_succ]
          refine wpAnyH_ready (rs := [8]) (by kernel_rfl) (by simp) (AllReadyH.cons (o := ⟨some 47, _, _, _, _, _⟩) rfl (fun K hK => ?_) AllReadyH.nil)
          go_simp
          refine (ref_bestC D HOK.out ctx _).mono ?_
          rintro e wa ⟨rfl, ha⟩
          go_wp2_with fail
          refine hK.out _ _ ?_ (fun hR => ?_)
          · exact PlaysR.keep hR ha
          clear hK K
          try simp only [Act.put, List.setIfInBounds_toArray, List.set_cons_zero, List.set_cons_succ]
          refine wpAnyH_take (i := 9) (oi := ⟨some 48, _, _, _, _, _⟩) (v := ?_) rfl (by kernel_rfl) (by kernel_rfl) (by kernel_rfl) (fun _ _ _ h => h) (Or.inl ⟨by kernel_rfl, ?_⟩) hR ?_
          rotate_left 1
          · intro wq hq; have hq4 := hq.2.2.2.1; have hq5 := hq.2.2.2.2.1; first | (go_simp; done) | (go_simp; with_reducible rfl)
          simp only [Act.put, List.setIfInBounds_toArray, List.set_cons_zero, List.set_cons_succ]
          refine wpAnyH_take (i := 10) (oi := ⟨some 49, _, _, _, _, _⟩) (v := ?_) rfl (by kernel_rfl) (by kernel_rfl) (by kernel_rfl) (fun _ _ _ h => h) (Or.inl ⟨by kernel_rfl, ?_⟩) hR ?_
          rotate_left 1
          · intro wq hq; have hq4 := hq.2.2.2.1; have hq5 := hq.2.2.2.2.1; first | (go_simp; done) | (go_simp; with_reducible rfl)
          simp only [Act.put, List.setIfInBounds_toArray, List.set_cons_zero, List.set_cons_succ]
          refine wpAnyH_done (by kernel_rfl) ?_ _
          clear r4 l4 g8 hro his his4
          go_wp2_with fail
          exact ⟨⟨k + 1, by omega, by omega, by rw [Int.natCast_succ], D, hR⟩, by simp [intOf]; omega⟩
      · go_wp2_with fail
        go_ret
        exact ⟨rfl, HR.out.2.2.2.2.2⟩
    · go_wp2_with fail
      go_ret
      exact ⟨rfl, HR.out.2.2.2.2.2⟩
theorem plic_plays_walk (w : World) (a0 : Option Addr) (len0 cap0 : Nat) (z0 : Nat → Int × Int × Int × Int) (l0 : len0 ≤ cap0) (m0 : cap0 ≤ 9223372036854775807)
    (w0 : ∀ i, i < cap0 → ((Lit.int .i64 (z0 i).1).wf = true ∧ (Lit.int .u64 (z0 i).2.1).wf = true ∧ (Lit.int .u64 (z0 i).2.2.1).wf = true ∧ (Lit.int .i64 (z0 i).2.2.2).wf = true) ∧
      ∃ b o, a0 = some ⟨b, o, none⟩ ∧ b < w.heap.size ∧ w.rangeAt b (o + i * 4) [.int .i64 (z0 i).1, .int .u64 (z0 i).2.1, .int .u64 (z0 i).2.2.1, .int .i64 (z0 i).2.2.2]) (a1 : Int) (w1 : (Lit.int .i64 a1).wf = true) :
    Calls Try.prog 7 #[.slice a0 len0 cap0, .int .i64 a1] w fun e w' => e = .returned (.bool true) ∧ Below w.heap.size w w' := by
  refine plic_plays w a0 len0 cap0 (by omega) (fun i => (z0 i).1) (fun i => (z0 i).2.1) (fun i => (z0 i).2.2.1) (fun i => (z0 i).2.2.2) ⟨fun k hk => (w0 k (by omega)).2, fun k hk => ?_⟩ a1
  have h := (w0 k (by omega)).1
  have h1 : 0 ≤ (z0 k).2.1 ∧ (z0 k).2.1 ≤ 18446744073709551615 := by simpa [Lit.wf, IntKind.min, IntKind.max, IntKind.signed, IntKind.bits] using h.2.1
  have h2 : 0 ≤ (z0 k).2.2.1 ∧ (z0 k).2.2.1 ≤ 18446744073709551615 := by simpa [Lit.wf, IntKind.min, IntKind.max, IntKind.signed, IntKind.bits] using h.2.2.1
  exact ⟨h1.1, h2.1, by omega⟩
end Go.Proofs.Ytebdbbpefmgooaa
