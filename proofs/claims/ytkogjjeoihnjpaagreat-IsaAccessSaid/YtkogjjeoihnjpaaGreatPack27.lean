/- IsaAccess: the walk. No condition. -/
import Derived.Test.YtkogjjeoihnjpaaGreatPack26
import Derived.Test.YtkogjjeoihnjpaaGreatPack15
import Derived.StillTailTactics
import Derived.BigRegion
import Derived.Deep.RegionWith
import Derived.Deep.RegionHeld3
import Derived.Deep.QuietTactic
import Derived.BigQuiet
import Derived.Deep.LoopGhost
import Derived.Deep.DeepCutAuto
import Derived.Deep.CutBlock
import Derived.Deep.DeepFit
import Derived.Deep.DeepMust
import Derived.Handy
section
set_option linter.unusedVariables false
set_option linter.unusedSimpArgs false
namespace Go.Proofs.YtkogjjeoihnjpaaGreat
open Go.RowKit Sx
set_option maxRecDepth 100000
def markC : List CK := [cu, ci, cu]
theorem want_in : wantC.map ckR = wnW := by kernel_rfl
def loadW (x : Value) : Sem Value := Instr.loadAt 71 x
theorem ld_want (x : Value) : Instr.loadAt 71 x = loadW x := rfl
theorem rl_want {w : World} {b o : Nat} {ev : List Int} (h : w.rangeAt b o (cksV wantC ev)) : (loadW (.pointer (some ⟨b, o, none⟩))).run Tryz.prog w = .ok (.agg (cksV wantC ev).toArray) w :=
  run_loadAt_mid (P := Tryz.prog) w b o 71 (cksV wantC ev) _ h Tryz.underlying71 rfl (by rw [cksV_len]; kernel_rfl)
/-- what an access comes to held against itself -/
def eqGot (x y : Value) : Sem Bool := Op.equalIn 10000 68 x y
theorem eg1 (x y : Value) : Op.equalIn 10000 68 x y = eqGot x y := rfl
theorem eg2 (x y : Value) : Op.equal 68 x y = eqGot x y := rfl
theorem run_eqGot {l : List Int} (hh : InB accOrs l) (w : World) : (eqGot (.agg (cksV gotC l).toArray) (.agg (cksV gotC l).toArray)).run Tryz.prog w = .ok true w :=
  eq_self 68 gotC accOrs 100 (by decide) (by kernel_rfl) hh 10000 (by decide) w
attribute [local go_sem ↓] ld_want eg1 eg2
/-- the document's memory behind some bytes of a word -/
def docB (ct : Nat → Nat) (off D : Nat) (j : Nat) : Nat → Nat := putTo ct off (fun i => D / 2 ^ (8 * i) % 256) (fun _ => true) j
theorem docB_step (ct : Nat → Nat) (off D j : Nat) : docB ct off D (j + 1) = updB (docB ct off D j) (off + j) (D / 2 ^ (8 * j) % 256) := by
  unfold docB
  rw [putTo, if_pos rfl]
theorem docB_all (ct : Nat → Nat) (off D n : Nat) : docB ct off D n = putWord ct off n D := by
  funext i
  unfold docB putWord
  rw [putTo_at]
  simp
theorem byte_val (d j : Nat) (hj : j < 8) : IntKind.u8.wrap ((d : Int) / 2 ^ min (IntKind.u64.wrap (IntKind.i64.wrap (8 * (j : Int)))).toNat 64) = ((d / 2 ^ (8 * j) % 256 : Nat) : Int) := by
  have h1 : IntKind.i64.wrap (8 * (j : Int)) = 8 * (j : Int) := by
    rw [IntKind.wrap_i64]; omega
  have h2 : IntKind.u64.wrap (8 * (j : Int)) = 8 * (j : Int) := by
    rw [IntKind.wrap_u64]; omega
  have h3 : min (8 * (j : Int)).toNat 64 = 8 * j := by omega
  rw [h1, h2, h3, IntKind.wrap_u8]
  push_cast
  rfl
set_option maxHeartbeats 8000000 in
theorem isa_access_walk (W : World) (n : Int) (ma : Option Addr) (mm mc : Nat) (mev : Nat → List Int) (hmv : FlatRow W ma mm markC mev) (hmm : (mm : Int) ≤ 9223372036854775807) (la : Option Addr) (lm lc : Nat) (lev : Nat → List Int) (hlv : FlatRow W la lm wantC lev) (hlm : (lm : Int) ≤ 9223372036854775807) :
    Calls Tryz.prog 8 #[.int .i64 n, .slice ma mm mc, .slice la lm lc] W fun e w' => e = .returned (.bool true) ∧ Below W.heap.size W w' := by
  have HMADE := Lib.hid (made_short n none 0 0 W [] ⟨rfl, by simp, .inl ⟨rfl, rfl⟩⟩ (by intro b o s h; cases h) (by decide))
  obtain ⟨hN4, hN8⟩ := pagesN_bd n
  generalize pagesN n = N at *
  have HN := Lib.hid (And.intro hN4 hN8)
  have HMV := Lib.hid hmv
  have HLV := Lib.hid hlv
  have HMM := Lib.hid hmm
  have HLM := Lib.hid hlm
  clear hN4 hN8 hmv hlv hmm hlm
  go_enter Tryz.func8, Tryz.ntmps8
  go_wp2_with fail
  refine HMADE.out.mono ?_
  rintro e w1 ⟨q, p, b, mq, sb, S, rfl, hpair, hb⟩
  have HK := Lib.hid (Both.made HN.out.1 (by have := HN.out.2; omega) (l := []) (k := 0) (fun i => by simp) hpair hb)
  clear hpair hb HMADE
  go_wp2_with fail
  refine (isa_awake _).mono ?_
  rintro e w2 ⟨rfl, hb⟩
  have HK2 := Lib.hid (HK.out.on hb)
  clear hb HK
  go_upto_block 0 with fail
  go_cut [8, 9, 10, 11] (fun s8 s9 s10 s11 wx => ∃ (S : Nat → Prop) (ct : Nat → Nat), Both W wx N q p b S mq sb hart0L hart0L ct ct)
  case first =>
    go_wp2_with fail
    go_loopw [8, 9, 10, 11] (fun i _ _ _ wr => ∃ (k : Nat) (S : Nat → Prop) (ct : Nat → Nat), (k : Int) ≤ mm ∧ (k : Int) ≤ 100 ∧ i = .int .i64 k ∧ Both W wr N q p b S mq sb hart0L hart0L ct ct) (fun i _ _ _ _ => (100 - intOf i).toNat)
    case atStart => exact ⟨0, S, _, by omega, by omega, rfl, HK2.out⟩
    case round =>
      obtain ⟨k, S1, ct, hk1, hk2, rfl, hkeep⟩ := hrel
      have HK3 := Lib.hid hkeep
      clear hkeep HK2
      by_cases hlt : (k : Int) < mm
      · by_cases hlt2 : (k : Int) < 100
        · clear hk1 hk2
          obtain ⟨hin, mb, mo, rfl, hmb, hmr⟩ := HMV.out k (by omega)
          have HIN := Lib.hid hin
          obtain ⟨A, sz, D, hev⟩ : ∃ A sz D, mev k = [A, sz, D] := by
            have := hin.1
            match mev k, this with
            | [x, y, z], _ => exact ⟨x, y, z, rfl⟩
          rw [hev] at hin hmr
          have hA := inB_get hin (i := 0) (r := U) rfl
          have hD := inB_get hin (i := 2) (r := U) rfl
          have hA0 : (0 : Int) ≤ A := hA.1
          have hA1 : A ≤ (18446744073709551615 : Int) := hA.2
          have hD0 : (0 : Int) ≤ D := hD.1
          have hD1 : D ≤ (18446744073709551615 : Int) := hD.2
          obtain ⟨d, rfl⟩ : ∃ d : Nat, D = d := ⟨D.toNat, by omega⟩
          have HD : Hid (d < 2 ^ 64) := by show _ < _; omega
          obtain ⟨off, hoff⟩ : ∃ off : Nat, A % 16384 = off := ⟨(A % 16384).toNat, by omega⟩
          have HOFF : Hid (off < 16384) := by show _ < _; omega
          have HMC : Hid (∀ wq, Below W.heap.size W wq → wq.cell? ⟨mb, mo + k * 3, none⟩ = some (.int .u64 A) ∧ wq.cell? ⟨mb, mo + k * 3 + 1, none⟩ = some (.int .i64 sz) ∧ wq.cell? ⟨mb, mo + k * 3 + 1 + 1, none⟩ = some (.int .u64 (d : Int))) := fun wq hq => by
            have hr := rangeAt_below hmr hmb hq
            exact ⟨hr 0 _ rfl, hr 1 _ rfl, hr 2 _ rfl⟩
          obtain ⟨y, hy⟩ : ∃ y : Int, y = 2147483648 + (off : Int) := ⟨_, rfl⟩
          have HY := Lib.hid hy
          have hwA : IntKind.u64.wrap (2147483648 + (off : Int)) = y := by have := HOFF.out; rw [IntKind.wrap_u64]; omega
          have hy0 : 0 ≤ y := by omega
          clear hy
          obtain ⟨er, her⟩ : ∃ er : Int, er = mayErr N y sz := ⟨_, rfl⟩
          have HER := Lib.hid her
          clear her
          clear hin hmr hev hD hA hA1 hD0 hD1 HIN
          obtain ⟨r0, r1, r2⟩ := HMC.out wr HK3.out.below
          go_wp2_with fail
          refine wp_region_held_drew (S := fun wq => wq.heap[q]? = some (.cells #[.pointer (some ⟨p, 0, none⟩), .pointer (some ⟨mq, 0, none⟩)] 34 (0, 0)) ∧ Below W.heap.size W wq) (by kernel_rfl) ⟨HK3.out.pair, HK3.out.below.drew⟩ (fun hH => ?_)
          refine wpAnyH_take (i := 0) (oi := ⟨some 38, _, _, _, _, _⟩) (v := ?_) rfl (by kernel_rfl) (by kernel_rfl) (by kernel_rfl) (fun _ _ _ h => h) (Or.inl ⟨by kernel_rfl, ?_⟩) hH ?_
          rotate_left 1
          · intro wq hq; obtain ⟨r0, r1, r2⟩ := HMC.out wq hq.2; have r3 := blk_cell hq.1 0; have r4 := blk_cell hq.1 1; simp only [List.getElem?_toArray, List.getElem?_cons_succ, List.getElem?_cons_zero] at r3 r4; clear hq; first | (go_simp; done) | (go_simp; with_reducible rfl)
          simp only [Act.put, List.setIfInBounds_toArray, List.set_cons_zero, List.set_cons_succ]
          refine wpAnyH_take (i := 1) (oi := ⟨some 39, _, _, _, _, _⟩) (v := ?_) rfl (by kernel_rfl) (by kernel_rfl) (by kernel_rfl) (fun _ _ _ h => h) (Or.inl ⟨by kernel_rfl, ?_⟩) hH ?_
          rotate_left 1
          · intro wq hq; obtain ⟨r0, r1, r2⟩ := HMC.out wq hq.2; have r3 := blk_cell hq.1 0; have r4 := blk_cell hq.1 1; simp only [List.getElem?_toArray, List.getElem?_cons_succ, List.getElem?_cons_zero] at r3 r4; clear hq; first | (go_simp; done) | (go_simp; with_reducible rfl)
          simp only [Act.put, List.setIfInBounds_toArray, List.set_cons_zero, List.set_cons_succ]
          refine wpAnyH_take (i := 2) (oi := ⟨some 40, _, _, _, _, _⟩) (v := ?_) rfl (by kernel_rfl) (by kernel_rfl) (by kernel_rfl) (fun _ _ _ h => h) (Or.inl ⟨by kernel_rfl, ?_⟩) hH ?_
          rotate_left 1
          · intro wq hq; obtain ⟨r0, r1, r2⟩ := HMC.out wq hq.2; have r3 := blk_cell hq.1 0; have r4 := blk_cell hq.1 1; simp only [List.getElem?_toArray, List.getElem?_cons_succ, List.getElem?_cons_zero] at r3 r4; clear hq; first | (go_simp; done) | (go_simp; with_reducible rfl)
          simp only [Act.put, List.setIfInBounds_toArray, List.set_cons_zero, List.set_cons_succ]
          refine wpAnyH_take (i := 3) (oi := ⟨some 41, _, _, _, _, _⟩) (v := ?_) rfl (by kernel_rfl) (by kernel_rfl) (by kernel_rfl) (fun _ _ _ h => h) (Or.inl ⟨by kernel_rfl, ?_⟩) hH ?_
          rotate_left 1
          · intro wq hq; obtain ⟨r0, r1, r2⟩ := HMC.out wq hq.2; have r3 := blk_cell hq.1 0; have r4 := blk_cell hq.1 1; simp only [List.getElem?_toArray, List.getElem?_cons_succ, List.getElem?_cons_zero] at r3 r4; clear hq; first | (go_simp; done) | (go_simp; with_reducible rfl)
          simp only [Act.put, List.setIfInBounds_toArray, List.set_cons_zero, List.set_cons_succ]
          refine wpAnyH_take (i := 4) (oi := ⟨some 42, _, _, _, _, _⟩) (v := ?_) rfl (by kernel_rfl) (by kernel_rfl) (by kernel_rfl) (fun _ _ _ h => h) (Or.inl ⟨by kernel_rfl, ?_⟩) hH ?_
          rotate_left 1
          · intro wq hq; obtain ⟨r0, r1, r2⟩ := HMC.out wq hq.2; have r3 := blk_cell hq.1 0; have r4 := blk_cell hq.1 1; simp only [List.getElem?_toArray, List.getElem?_cons_succ, List.getElem?_cons_zero] at r3 r4; clear hq; first | (go_simp; done) | (go_simp; with_reducible rfl)
          simp only [Act.put, List.setIfInBounds_toArray, List.set_cons_zero, List.set_cons_succ]
          refine wpAnyH_take (i := 5) (oi := ⟨some 43, _, _, _, _, _⟩) (v := ?_) rfl (by kernel_rfl) (by kernel_rfl) (by kernel_rfl) (fun _ _ _ h => h) (Or.inl ⟨by kernel_rfl, ?_⟩) hH ?_
          rotate_left 1
          · intro wq hq; obtain ⟨r0, r1, r2⟩ := HMC.out wq hq.2; have r3 := blk_cell hq.1 0; have r4 := blk_cell hq.1 1; simp only [List.getElem?_toArray, List.getElem?_cons_succ, List.getElem?_cons_zero] at r3 r4; clear hq; first | (go_simp; done) | (go_simp; with_reducible rfl)
          simp only [Act.put, List.setIfInBounds_toArray, List.set_cons_zero, List.set_cons_succ]
          refine wpAnyH_take (i := 6) (oi := ⟨some 44, _, _, _, _, _⟩) (v := ?_) rfl (by kernel_rfl) (by kernel_rfl) (by kernel_rfl) (fun _ _ _ h => h) (Or.inl ⟨by kernel_rfl, ?_⟩) hH ?_
          rotate_left 1
          · intro wq hq; obtain ⟨r0, r1, r2⟩ := HMC.out wq hq.2; have r3 := blk_cell hq.1 0; have r4 := blk_cell hq.1 1; simp only [List.getElem?_toArray, List.getElem?_cons_succ, List.getElem?_cons_zero] at r3 r4; clear hq; first | (go_simp; done) | (go_simp; with_reducible rfl)
          simp only [Act.put, List.setIfInBounds_toArray, List.set_cons_zero, List.set_cons_succ]
          refine wpAnyH_take (i := 7) (oi := ⟨some 45, _, _, _, _, _⟩) (v := ?_) rfl (by kernel_rfl) (by kernel_rfl) (by kernel_rfl) (fun _ _ _ h => h) (Or.inl ⟨by kernel_rfl, ?_⟩) hH ?_
          rotate_left 1
          · intro wq hq; obtain ⟨r0, r1, r2⟩ := HMC.out wq hq.2; have r3 := blk_cell hq.1 0; have r4 := blk_cell hq.1 1; simp only [List.getElem?_toArray, List.getElem?_cons_succ, List.getElem?_cons_zero] at r3 r4; clear hq; first | (go_simp; done) | (go_simp; with_reducible rfl)
          simp only [Act.put, List.setIfInBounds_toArray, List.set_cons_zero, List.set_cons_succ]
          refine wpAnyH_take (i := 8) (oi := ⟨some 46, _, _, _, _, _⟩) (v := ?_) rfl (by kernel_rfl) (by kernel_rfl) (by kernel_rfl) (fun _ _ _ h => h) (Or.inl ⟨by kernel_rfl, ?_⟩) hH ?_
          rotate_left 1
          · intro wq hq; obtain ⟨r0, r1, r2⟩ := HMC.out wq hq.2; have r3 := blk_cell hq.1 0; have r4 := blk_cell hq.1 1; simp only [List.getElem?_toArray, List.getElem?_cons_succ, List.getElem?_cons_zero] at r3 r4; clear hq; first | (go_simp; done) | (go_simp; with_reducible rfl)
          simp only [Act.put, List.setIfInBounds_toArray, List.set_cons_zero, List.set_cons_succ]
          refine wpAnyH_take (i := 9) (oi := ⟨some 47, _, _, _, _, _⟩) (v := ?_) rfl (by kernel_rfl) (by kernel_rfl) (by kernel_rfl) (fun _ _ _ h => h) (Or.inl ⟨by kernel_rfl, ?_⟩) hH ?_
          rotate_left 1
          · intro wq hq; obtain ⟨r0, r1, r2⟩ := HMC.out wq hq.2; have r3 := blk_cell hq.1 0; have r4 := blk_cell hq.1 1; simp only [List.getElem?_toArray, List.getElem?_cons_succ, List.getElem?_cons_zero] at r3 r4; clear hq; first | (go_simp; done) | (go_simp; with_reducible rfl)
          simp only [Act.put, List.setIfInBounds_toArray, List.set_cons_zero, List.set_cons_succ]
          refine wpAnyH_take (i := 10) (oi := ⟨some 48, _, _, _, _, _⟩) (v := ?_) rfl (by kernel_rfl) (by kernel_rfl) (by kernel_rfl) (fun _ _ _ h => h) (Or.inl ⟨by kernel_rfl, ?_⟩) hH ?_
          rotate_left 1
          · intro wq hq; obtain ⟨r0, r1, r2⟩ := HMC.out wq hq.2; have r3 := blk_cell hq.1 0; have r4 := blk_cell hq.1 1; simp only [List.getElem?_toArray, List.getElem?_cons_succ, List.getElem?_cons_zero] at r3 r4; clear hq; first | (go_simp; done) | (go_simp; with_reducible rfl)
          simp only [Act.put, List.setIfInBounds_toArray, List.set_cons_zero, List.set_cons_succ]
          refine wpAnyH_take (i := 11) (oi := ⟨some 49, _, _, _, _, _⟩) (v := ?_) rfl (by kernel_rfl) (by kernel_rfl) (by kernel_rfl) (fun _ _ _ h => h) (Or.inl ⟨by kernel_rfl, ?_⟩) hH ?_
          rotate_left 1
          · intro wq hq; obtain ⟨r0, r1, r2⟩ := HMC.out wq hq.2; have r3 := blk_cell hq.1 0; have r4 := blk_cell hq.1 1; simp only [List.getElem?_toArray, List.getElem?_cons_succ, List.getElem?_cons_zero] at r3 r4; clear hq; first | (go_simp; done) | (go_simp; with_reducible rfl)
          simp only [Act.put, List.setIfInBounds_toArray, List.set_cons_zero, List.set_cons_succ]
          refine wpAnyH_take (i := 12) (oi := ⟨some 50, _, _, _, _, _⟩) (v := ?_) rfl (by kernel_rfl) (by kernel_rfl) (by kernel_rfl) (fun _ _ _ h => h) (Or.inl ⟨by kernel_rfl, ?_⟩) hH ?_
          rotate_left 1
          · intro wq hq; obtain ⟨r0, r1, r2⟩ := HMC.out wq hq.2; have r3 := blk_cell hq.1 0; have r4 := blk_cell hq.1 1; simp only [List.getElem?_toArray, List.getElem?_cons_succ, List.getElem?_cons_zero] at r3 r4; clear hq; first | (go_simp; done) | (go_simp; with_reducible rfl)
          simp only [Act.put, List.setIfInBounds_toArray, List.set_cons_zero, List.set_cons_succ]
          refine wpAnyH_take (i := 13) (oi := ⟨some 51, _, _, _, _, _⟩) (v := ?_) rfl (by kernel_rfl) (by kernel_rfl) (by kernel_rfl) (fun _ _ _ h => h) (Or.inl ⟨by kernel_rfl, ?_⟩) hH ?_
          rotate_left 1
          · intro wq hq; obtain ⟨r0, r1, r2⟩ := HMC.out wq hq.2; have r3 := blk_cell hq.1 0; have r4 := blk_cell hq.1 1; simp only [List.getElem?_toArray, List.getElem?_cons_succ, List.getElem?_cons_zero] at r3 r4; clear hq; first | (go_simp; done) | (go_simp; with_reducible rfl)
          simp only [Act.put, List.setIfInBounds_toArray, List.set_cons_zero, List.set_cons_succ]
          refine wpAnyH_take (i := 14) (oi := ⟨some 52, _, _, _, _, _⟩) (v := ?_) rfl (by kernel_rfl) (by kernel_rfl) (by kernel_rfl) (fun _ _ _ h => h) (Or.inl ⟨by kernel_rfl, ?_⟩) hH ?_
          rotate_left 1
          · intro wq hq; obtain ⟨r0, r1, r2⟩ := HMC.out wq hq.2; have r3 := blk_cell hq.1 0; have r4 := blk_cell hq.1 1; simp only [List.getElem?_toArray, List.getElem?_cons_succ, List.getElem?_cons_zero] at r3 r4; clear hq; first | (go_simp; done) | (go_simp; with_reducible rfl)
          simp only [Act.put, List.setIfInBounds_toArray, List.set_cons_zero, List.set_cons_succ]
          refine wpAnyH_ready (rs := [15]) (by kernel_rfl) (by simp) (AllReadyH.cons (o := ⟨some 53, _, _, _, _, _⟩) rfl (fun K hK => ?_) AllReadyH.nil)
          go_simp
          refine ((HK3.out.on (by first | exact (Below.refl _ _).drew)).put y hy0 (by have := HOFF.out; have := HY.out; omega) sz d).mono ?_
          rintro e w4 ⟨S2, he, hk4⟩
          rw [← HER.out] at he
          subst he
          have HK4 := Lib.hid hk4
          clear hk4
          go_wp2_with fail
          refine hK.out _ _ ⟨HK4.out.pair, HK4.out.below⟩ (fun hH => ?_)
          clear hK K
          try simp only [Act.put, List.setIfInBounds_toArray, List.set_cons_zero, List.set_cons_succ]
          refine wpAnyH_take (i := 16) (oi := ⟨some 54, _, _, _, _, _⟩) (v := ?_) rfl (by kernel_rfl) (by kernel_rfl) (by kernel_rfl) (fun _ _ _ h => h) (Or.inl ⟨by kernel_rfl, ?_⟩) hH ?_
          rotate_left 1
          · intro wq hq; obtain ⟨r0, r1, r2⟩ := HMC.out wq hq.2; have r3 := blk_cell hq.1 0; have r4 := blk_cell hq.1 1; simp only [List.getElem?_toArray, List.getElem?_cons_succ, List.getElem?_cons_zero] at r3 r4; clear hq; first | (go_simp; done) | (go_simp; with_reducible rfl)
          simp only [Act.put, List.setIfInBounds_toArray, List.set_cons_zero, List.set_cons_succ]
          refine wpAnyH_done (by kernel_rfl) ?_ _
          clear hH
          have HLT := Lib.hid (And.intro hlt hlt2)
          clear hwA hoff hy0 hA0 hlt hlt2
          by_cases her : er = 0
          · subst her
            have hme := HER.out.symm
            obtain ⟨hsz, hal, hram⟩ := mayErr_0 hme
            obtain ⟨k', rfl⟩ : ∃ k' : Nat, sz = k' := ⟨sz.toNat, by omega⟩
            have HSZ : Hid (k' = 1 ∨ k' = 2 ∨ k' = 4 ∨ k' = 8) := by show _ ∨ _; omega
            have HLE : Hid (off + k' ≤ 16384) := by
              show _ ≤ _
              have := HOFF.out
              have := HY.out
              rcases HSZ.out with rfl | rfl | rfl | rfl <;> omega
            have HCT : Hid (putM N ct y (k' : Int) d = putWord ct off k' d) := by
              show _ = _
              unfold putM
              rw [if_pos hme, show (y - 2147483648).toNat = off by have := HY.out; omega, Int.toNat_natCast]
            have hsub : IntKind.u64.wrap (y - 2147483648) = (off : Int) := by have := HOFF.out; have := HY.out; rw [IntKind.wrap_u64]; omega
            have hs64 : wrap64 (off : Int) = (off : Int) := by have := HOFF.out; unfold wrap64; omega
            rw [HCT.out] at HK4
            clear hsz hal hram hme
            try clear hH
            rw [show ((0 : Int) == 0) = true from rfl]
            go_wp2_with fail
            clear hsub hs64 r0 r1 r2
            go_loopw [11] (fun i wr => ∃ j : Nat, (j : Int) ≤ k' ∧ i = .int .i64 j ∧ Both W wr N q p b S2 mq sb hart0L hart0L (putWord ct off k' d) (docB ct off d j)) (fun i _ => ((k' : Int) - intOf i).toNat)
            case atStart => exact ⟨0, by omega, rfl, HK4.out⟩
            case round =>
              obtain ⟨j, hj, rfl, hkeep⟩ := hrel
              have HK5 := Lib.hid hkeep
              clear hkeep
              obtain ⟨r0, r1, r2⟩ := HMC.out wr HK5.out.below
              have hlt := HLT.out.1
              by_cases hjl : (j : Int) < k'
              · have HJ : Hid (j < k') := by show _ < _; omega
                have HJ8 : Hid (j < 8) := by show _ < _; have := HJ.out; rcases HSZ.out with rfl | rfl | rfl | rfl <;> omega
                obtain ⟨x, hx⟩ : ∃ x : Nat, x = off + j := ⟨_, rfl⟩
                obtain ⟨M, hM⟩ : ∃ M : Nat, M = N * 4096 := ⟨_, rfl⟩
                have HE0 : Hid (wrap64 (off : Int) = (off : Int)) := by show _ = _; have := HOFF.out; unfold wrap64; omega
                have HE1 : Hid (IntKind.i64.wrap ((off : Int) + (j : Int)) = (x : Int)) := by show _ = _; have := HOFF.out; have := HJ8.out; rw [IntKind.wrap_i64]; (try unfold wrap64); omega
                have HE2 : Hid (wrap64 (8 * (j : Int)) = 8 * (j : Int)) := by show _ = _; have := HJ8.out; unfold wrap64; omega
                have HE3 : Hid (IntKind.u64.wrap (8 * (j : Int)) = 8 * (j : Int)) := by show _ = _; have := HJ8.out; rw [IntKind.wrap_u64]; omega
                have hxM : (x : Int) < (M : Int) := by have := HLE.out; have := HJ.out; have := HN.out.1; omega
                have HXM := Lib.hid hxM
                have HX := Lib.hid hx
                have HM := Lib.hid hM
                have HRB : Hid (∀ wq, RefAt wq mq sb N (cksV hartC hart0L) → wq.cell? ⟨mq, 1, none⟩ = some (.slice (some ⟨sb, 0, none⟩) M M)) := fun wq hq => by rw [HM.out]; exact hq.bytes
                have HST : Hid (wr.cell? ⟨sb, x, none⟩ = some (.int .u8 ((docB ct off d j x : Nat) : Int))) := by
                  obtain ⟨⟨cur, c1, c2, c3⟩, c4⟩ := HK5.out.mem
                  exact (blk_cell c1 x).trans (c3 x (by have := HXM.out; have := HM.out; omega))
                clear hx hM hj hxM
                go_wp2_with fail
                refine wp_region_held_drew (S := fun wq => wq.heap[q]? = some (.cells #[.pointer (some ⟨p, 0, none⟩), .pointer (some ⟨mq, 0, none⟩)] 34 (0, 0)) ∧ Below W.heap.size W wq ∧ RefAt wq mq sb N (cksV hartC hart0L)) (by kernel_rfl) ⟨HK5.out.pair, HK5.out.below.drew, (HK5.out.on (Below.refl _ _).drew).ref⟩ (fun hH => ?_)
                refine wpAnyH_take (i := 0) (oi := ⟨some 67, _, _, _, _, _⟩) (v := ?_) rfl (by kernel_rfl) (by kernel_rfl) (by kernel_rfl) (fun _ _ _ h => h) (Or.inl ⟨by kernel_rfl, ?_⟩) hH ?_
                rotate_left 1
                · intro wq hq; obtain ⟨r0, r1, r2⟩ := HMC.out wq hq.2.1; have r3 := blk_cell hq.1 0; have r4 := blk_cell hq.1 1; have r5 := HRB.out wq hq.2.2; have e0 := HE0.out; have e1 := HE1.out; have e2 := HE2.out; have e3 := HE3.out; have hxM := HXM.out; simp only [List.getElem?_toArray, List.getElem?_cons_succ, List.getElem?_cons_zero] at r3 r4; clear hq; first | (go_simp; done) | (go_simp; with_reducible rfl)
                simp only [Act.put, List.setIfInBounds_toArray, List.set_cons_zero, List.set_cons_succ]
                refine wpAnyH_take (i := 1) (oi := ⟨some 68, _, _, _, _, _⟩) (v := ?_) rfl (by kernel_rfl) (by kernel_rfl) (by kernel_rfl) (fun _ _ _ h => h) (Or.inl ⟨by kernel_rfl, ?_⟩) hH ?_
                rotate_left 1
                · intro wq hq; obtain ⟨r0, r1, r2⟩ := HMC.out wq hq.2.1; have r3 := blk_cell hq.1 0; have r4 := blk_cell hq.1 1; have r5 := HRB.out wq hq.2.2; have e0 := HE0.out; have e1 := HE1.out; have e2 := HE2.out; have e3 := HE3.out; have hxM := HXM.out; simp only [List.getElem?_toArray, List.getElem?_cons_succ, List.getElem?_cons_zero] at r3 r4; clear hq; first | (go_simp; done) | (go_simp; with_reducible rfl)
                simp only [Act.put, List.setIfInBounds_toArray, List.set_cons_zero, List.set_cons_succ]
                refine wpAnyH_take (i := 2) (oi := ⟨some 69, _, _, _, _, _⟩) (v := ?_) rfl (by kernel_rfl) (by kernel_rfl) (by kernel_rfl) (fun _ _ _ h => h) (Or.inl ⟨by kernel_rfl, ?_⟩) hH ?_
                rotate_left 1
                · intro wq hq; obtain ⟨r0, r1, r2⟩ := HMC.out wq hq.2.1; have r3 := blk_cell hq.1 0; have r4 := blk_cell hq.1 1; have r5 := HRB.out wq hq.2.2; have e0 := HE0.out; have e1 := HE1.out; have e2 := HE2.out; have e3 := HE3.out; have hxM := HXM.out; simp only [List.getElem?_toArray, List.getElem?_cons_succ, List.getElem?_cons_zero] at r3 r4; clear hq; first | (go_simp; done) | (go_simp; with_reducible rfl)
                simp only [Act.put, List.setIfInBounds_toArray, List.set_cons_zero, List.set_cons_succ]
                refine wpAnyH_take (i := 3) (oi := ⟨some 70, _, _, _, _, _⟩) (v := ?_) rfl (by kernel_rfl) (by kernel_rfl) (by kernel_rfl) (fun _ _ _ h => h) (Or.inl ⟨by kernel_rfl, ?_⟩) hH ?_
                rotate_left 1
                · intro wq hq; obtain ⟨r0, r1, r2⟩ := HMC.out wq hq.2.1; have r3 := blk_cell hq.1 0; have r4 := blk_cell hq.1 1; have r5 := HRB.out wq hq.2.2; have e0 := HE0.out; have e1 := HE1.out; have e2 := HE2.out; have e3 := HE3.out; have hxM := HXM.out; simp only [List.getElem?_toArray, List.getElem?_cons_succ, List.getElem?_cons_zero] at r3 r4; clear hq; first | (go_simp; done) | (go_simp; with_reducible rfl)
                simp only [Act.put, List.setIfInBounds_toArray, List.set_cons_zero, List.set_cons_succ]
                refine wpAnyH_take (i := 4) (oi := ⟨some 71, _, _, _, _, _⟩) (v := ?_) rfl (by kernel_rfl) (by kernel_rfl) (by kernel_rfl) (fun _ _ _ h => h) (Or.inl ⟨by kernel_rfl, ?_⟩) hH ?_
                rotate_left 1
                · intro wq hq; obtain ⟨r0, r1, r2⟩ := HMC.out wq hq.2.1; have r3 := blk_cell hq.1 0; have r4 := blk_cell hq.1 1; have r5 := HRB.out wq hq.2.2; have e0 := HE0.out; have e1 := HE1.out; have e2 := HE2.out; have e3 := HE3.out; have hxM := HXM.out; simp only [List.getElem?_toArray, List.getElem?_cons_succ, List.getElem?_cons_zero] at r3 r4; clear hq; first | (go_simp; done) | (go_simp; with_reducible rfl)
                simp only [Act.put, List.setIfInBounds_toArray, List.set_cons_zero, List.set_cons_succ]
                refine wpAnyH_take (i := 5) (oi := ⟨some 72, _, _, _, _, _⟩) (v := ?_) rfl (by kernel_rfl) (by kernel_rfl) (by kernel_rfl) (fun _ _ _ h => h) (Or.inl ⟨by kernel_rfl, ?_⟩) hH ?_
                rotate_left 1
                · intro wq hq; obtain ⟨r0, r1, r2⟩ := HMC.out wq hq.2.1; have r3 := blk_cell hq.1 0; have r4 := blk_cell hq.1 1; have r5 := HRB.out wq hq.2.2; have e0 := HE0.out; have e1 := HE1.out; have e2 := HE2.out; have e3 := HE3.out; have hxM := HXM.out; simp only [List.getElem?_toArray, List.getElem?_cons_succ, List.getElem?_cons_zero] at r3 r4; clear hq; first | (go_simp; done) | (go_simp; with_reducible rfl)
                simp only [Act.put, List.setIfInBounds_toArray, List.set_cons_zero, List.set_cons_succ]
                refine wpAnyH_take (i := 6) (oi := ⟨some 73, _, _, _, _, _⟩) (v := ?_) rfl (by kernel_rfl) (by kernel_rfl) (by kernel_rfl) (fun _ _ _ h => h) (Or.inl ⟨by kernel_rfl, ?_⟩) hH ?_
                rotate_left 1
                · intro wq hq; obtain ⟨r0, r1, r2⟩ := HMC.out wq hq.2.1; have r3 := blk_cell hq.1 0; have r4 := blk_cell hq.1 1; have r5 := HRB.out wq hq.2.2; have e0 := HE0.out; have e1 := HE1.out; have e2 := HE2.out; have e3 := HE3.out; have hxM := HXM.out; simp only [List.getElem?_toArray, List.getElem?_cons_succ, List.getElem?_cons_zero] at r3 r4; clear hq; first | (go_simp; done) | (go_simp; with_reducible rfl)
                simp only [Act.put, List.setIfInBounds_toArray, List.set_cons_zero, List.set_cons_succ]
                refine wpAnyH_take (i := 7) (oi := ⟨some 74, _, _, _, _, _⟩) (v := ?_) rfl (by kernel_rfl) (by kernel_rfl) (by kernel_rfl) (fun _ _ _ h => h) (Or.inl ⟨by kernel_rfl, ?_⟩) hH ?_
                rotate_left 1
                · intro wq hq; obtain ⟨r0, r1, r2⟩ := HMC.out wq hq.2.1; have r3 := blk_cell hq.1 0; have r4 := blk_cell hq.1 1; have r5 := HRB.out wq hq.2.2; have e0 := HE0.out; have e1 := HE1.out; have e2 := HE2.out; have e3 := HE3.out; have hxM := HXM.out; simp only [List.getElem?_toArray, List.getElem?_cons_succ, List.getElem?_cons_zero] at r3 r4; clear hq; first | (go_simp; done) | (go_simp; with_reducible rfl)
                simp only [Act.put, List.setIfInBounds_toArray, List.set_cons_zero, List.set_cons_succ]
                refine wpAnyH_take (i := 8) (oi := ⟨some 75, _, _, _, _, _⟩) (v := ?_) rfl (by kernel_rfl) (by kernel_rfl) (by kernel_rfl) (fun _ _ _ h => h) (Or.inl ⟨by kernel_rfl, ?_⟩) hH ?_
                rotate_left 1
                · intro wq hq; obtain ⟨r0, r1, r2⟩ := HMC.out wq hq.2.1; have r3 := blk_cell hq.1 0; have r4 := blk_cell hq.1 1; have r5 := HRB.out wq hq.2.2; have e0 := HE0.out; have e1 := HE1.out; have e2 := HE2.out; have e3 := HE3.out; have hxM := HXM.out; simp only [List.getElem?_toArray, List.getElem?_cons_succ, List.getElem?_cons_zero] at r3 r4; clear hq; first | (go_simp; done) | (go_simp; with_reducible rfl)
                simp only [Act.put, List.setIfInBounds_toArray, List.set_cons_zero, List.set_cons_succ]
                refine wpAnyH_take (i := 9) (oi := ⟨some 76, _, _, _, _, _⟩) (v := ?_) rfl (by kernel_rfl) (by kernel_rfl) (by kernel_rfl) (fun _ _ _ h => h) (Or.inl ⟨by kernel_rfl, ?_⟩) hH ?_
                rotate_left 1
                · intro wq hq; obtain ⟨r0, r1, r2⟩ := HMC.out wq hq.2.1; have r3 := blk_cell hq.1 0; have r4 := blk_cell hq.1 1; have r5 := HRB.out wq hq.2.2; have e0 := HE0.out; have e1 := HE1.out; have e2 := HE2.out; have e3 := HE3.out; have hxM := HXM.out; simp only [List.getElem?_toArray, List.getElem?_cons_succ, List.getElem?_cons_zero] at r3 r4; clear hq; first | (go_simp; done) | (go_simp; with_reducible rfl)
                simp only [Act.put, List.setIfInBounds_toArray, List.set_cons_zero, List.set_cons_succ]
                refine wpAnyH_take (i := 10) (oi := ⟨some 77, _, _, _, _, _⟩) (v := ?_) rfl (by kernel_rfl) (by kernel_rfl) (by kernel_rfl) (fun _ _ _ h => h) (Or.inl ⟨by kernel_rfl, ?_⟩) hH ?_
                rotate_left 1
                · intro wq hq; obtain ⟨r0, r1, r2⟩ := HMC.out wq hq.2.1; have r3 := blk_cell hq.1 0; have r4 := blk_cell hq.1 1; have r5 := HRB.out wq hq.2.2; have e0 := HE0.out; have e1 := HE1.out; have e2 := HE2.out; have e3 := HE3.out; have hxM := HXM.out; simp only [List.getElem?_toArray, List.getElem?_cons_succ, List.getElem?_cons_zero] at r3 r4; clear hq; first | (go_simp; done) | (go_simp; with_reducible rfl)
                simp only [Act.put, List.setIfInBounds_toArray, List.set_cons_zero, List.set_cons_succ]
                refine wpAnyH_take (i := 11) (oi := ⟨some 78, _, _, _, _, _⟩) (v := ?_) rfl (by kernel_rfl) (by kernel_rfl) (by kernel_rfl) (fun _ _ _ h => h) (Or.inl ⟨by kernel_rfl, ?_⟩) hH ?_
                rotate_left 1
                · intro wq hq; obtain ⟨r0, r1, r2⟩ := HMC.out wq hq.2.1; have r3 := blk_cell hq.1 0; have r4 := blk_cell hq.1 1; have r5 := HRB.out wq hq.2.2; have e0 := HE0.out; have e1 := HE1.out; have e2 := HE2.out; have e3 := HE3.out; have hxM := HXM.out; simp only [List.getElem?_toArray, List.getElem?_cons_succ, List.getElem?_cons_zero] at r3 r4; clear hq; first | (go_simp; done) | (go_simp; with_reducible rfl)
                simp only [Act.put, List.setIfInBounds_toArray, List.set_cons_zero, List.set_cons_succ]
                refine wpAnyH_take (i := 12) (oi := ⟨some 79, _, _, _, _, _⟩) (v := ?_) rfl (by kernel_rfl) (by kernel_rfl) (by kernel_rfl) (fun _ _ _ h => h) (Or.inl ⟨by kernel_rfl, ?_⟩) hH ?_
                rotate_left 1
                · intro wq hq; obtain ⟨r0, r1, r2⟩ := HMC.out wq hq.2.1; have r3 := blk_cell hq.1 0; have r4 := blk_cell hq.1 1; have r5 := HRB.out wq hq.2.2; have e0 := HE0.out; have e1 := HE1.out; have e2 := HE2.out; have e3 := HE3.out; have hxM := HXM.out; simp only [List.getElem?_toArray, List.getElem?_cons_succ, List.getElem?_cons_zero] at r3 r4; clear hq; first | (go_simp; done) | (go_simp; with_reducible rfl)
                simp only [Act.put, List.setIfInBounds_toArray, List.set_cons_zero, List.set_cons_succ]
                refine wpAnyH_take (i := 13) (oi := ⟨some 80, _, _, _, _, _⟩) (v := ?_) rfl (by kernel_rfl) (by kernel_rfl) (by kernel_rfl) (fun _ _ _ h => h) (Or.inl ⟨by kernel_rfl, ?_⟩) hH ?_
                rotate_left 1
                · intro wq hq; obtain ⟨r0, r1, r2⟩ := HMC.out wq hq.2.1; have r3 := blk_cell hq.1 0; have r4 := blk_cell hq.1 1; have r5 := HRB.out wq hq.2.2; have e0 := HE0.out; have e1 := HE1.out; have e2 := HE2.out; have e3 := HE3.out; have hxM := HXM.out; simp only [List.getElem?_toArray, List.getElem?_cons_succ, List.getElem?_cons_zero] at r3 r4; clear hq; first | (go_simp; done) | (go_simp; with_reducible rfl)
                simp only [Act.put, List.setIfInBounds_toArray, List.set_cons_zero, List.set_cons_succ]
                refine wpAnyH_take (i := 14) (oi := ⟨some 81, _, _, _, _, _⟩) (v := ?_) rfl (by kernel_rfl) (by kernel_rfl) (by kernel_rfl) (fun _ _ _ h => h) (Or.inl ⟨by kernel_rfl, ?_⟩) hH ?_
                rotate_left 1
                · intro wq hq; obtain ⟨r0, r1, r2⟩ := HMC.out wq hq.2.1; have r3 := blk_cell hq.1 0; have r4 := blk_cell hq.1 1; have r5 := HRB.out wq hq.2.2; have e0 := HE0.out; have e1 := HE1.out; have e2 := HE2.out; have e3 := HE3.out; have hxM := HXM.out; simp only [List.getElem?_toArray, List.getElem?_cons_succ, List.getElem?_cons_zero] at r3 r4; clear hq; first | (go_simp; done) | (go_simp; with_reducible rfl)
                simp only [Act.put, List.setIfInBounds_toArray, List.set_cons_zero, List.set_cons_succ]
                refine wpAnyH_take (i := 15) (oi := ⟨some 82, _, _, _, _, _⟩) (v := ?_) rfl (by kernel_rfl) (by kernel_rfl) (by kernel_rfl) (fun _ _ _ h => h) (Or.inl ⟨by kernel_rfl, ?_⟩) hH ?_
                rotate_left 1
                · intro wq hq; obtain ⟨r0, r1, r2⟩ := HMC.out wq hq.2.1; have r3 := blk_cell hq.1 0; have r4 := blk_cell hq.1 1; have r5 := HRB.out wq hq.2.2; have e0 := HE0.out; have e1 := HE1.out; have e2 := HE2.out; have e3 := HE3.out; have hxM := HXM.out; simp only [List.getElem?_toArray, List.getElem?_cons_succ, List.getElem?_cons_zero] at r3 r4; clear hq; first | (go_simp; done) | (go_simp; with_reducible rfl)
                simp only [Act.put, List.setIfInBounds_toArray, List.set_cons_zero, List.set_cons_succ]
                refine wpAnyH_take (i := 16) (oi := ⟨some 83, _, _, _, _, _⟩) (v := ?_) rfl (by kernel_rfl) (by kernel_rfl) (by kernel_rfl) (fun _ _ _ h => h) (Or.inl ⟨by kernel_rfl, ?_⟩) hH ?_
                rotate_left 1
                · intro wq hq; obtain ⟨r0, r1, r2⟩ := HMC.out wq hq.2.1; have r3 := blk_cell hq.1 0; have r4 := blk_cell hq.1 1; have r5 := HRB.out wq hq.2.2; have e0 := HE0.out; have e1 := HE1.out; have e2 := HE2.out; have e3 := HE3.out; have hxM := HXM.out; simp only [List.getElem?_toArray, List.getElem?_cons_succ, List.getElem?_cons_zero] at r3 r4; clear hq; first | (go_simp; done) | (go_simp; with_reducible rfl)
                simp only [Act.put, List.setIfInBounds_toArray, List.set_cons_zero, List.set_cons_succ]
                refine wpAnyH_take (i := 17) (oi := ⟨some 84, _, _, _, _, _⟩) (v := ?_) rfl (by kernel_rfl) (by kernel_rfl) (by kernel_rfl) (fun _ _ _ h => h) (Or.inl ⟨by kernel_rfl, ?_⟩) hH ?_
                rotate_left 1
                · intro wq hq; obtain ⟨r0, r1, r2⟩ := HMC.out wq hq.2.1; have r3 := blk_cell hq.1 0; have r4 := blk_cell hq.1 1; have r5 := HRB.out wq hq.2.2; have e0 := HE0.out; have e1 := HE1.out; have e2 := HE2.out; have e3 := HE3.out; have hxM := HXM.out; simp only [List.getElem?_toArray, List.getElem?_cons_succ, List.getElem?_cons_zero] at r3 r4; clear hq; first | (go_simp; done) | (go_simp; with_reducible rfl)
                simp only [Act.put, List.setIfInBounds_toArray, List.set_cons_zero, List.set_cons_succ]
                refine wpAnyH_take (i := 18) (oi := ⟨some 85, _, _, _, _, _⟩) (v := ?_) rfl (by kernel_rfl) (by kernel_rfl) (by kernel_rfl) (fun _ _ _ h => h) (Or.inl ⟨by kernel_rfl, ?_⟩) hH ?_
                rotate_left 1
                · intro wq hq; obtain ⟨r0, r1, r2⟩ := HMC.out wq hq.2.1; have r3 := blk_cell hq.1 0; have r4 := blk_cell hq.1 1; have r5 := HRB.out wq hq.2.2; have e0 := HE0.out; have e1 := HE1.out; have e2 := HE2.out; have e3 := HE3.out; have hxM := HXM.out; simp only [List.getElem?_toArray, List.getElem?_cons_succ, List.getElem?_cons_zero] at r3 r4; clear hq; first | (go_simp; done) | (go_simp; with_reducible rfl)
                simp only [Act.put, List.setIfInBounds_toArray, List.set_cons_zero, List.set_cons_succ]
                refine wpAnyH_take (i := 19) (oi := ⟨some 86, _, _, _, _, _⟩) (v := ?_) rfl (by kernel_rfl) (by kernel_rfl) (by kernel_rfl) (fun _ _ _ h => h) (Or.inl ⟨by kernel_rfl, ?_⟩) hH ?_
                rotate_left 1
                · intro wq hq; obtain ⟨r0, r1, r2⟩ := HMC.out wq hq.2.1; have r3 := blk_cell hq.1 0; have r4 := blk_cell hq.1 1; have r5 := HRB.out wq hq.2.2; have e0 := HE0.out; have e1 := HE1.out; have e2 := HE2.out; have e3 := HE3.out; have hxM := HXM.out; simp only [List.getElem?_toArray, List.getElem?_cons_succ, List.getElem?_cons_zero] at r3 r4; clear hq; first | (go_simp; done) | (go_simp; with_reducible rfl)
                simp only [Act.put, List.setIfInBounds_toArray, List.set_cons_zero, List.set_cons_succ]
                refine wpAnyH_take (i := 20) (oi := ⟨some 87, _, _, _, _, _⟩) (v := ?_) rfl (by kernel_rfl) (by kernel_rfl) (by kernel_rfl) (fun _ _ _ h => h) (Or.inl ⟨by kernel_rfl, ?_⟩) hH ?_
                rotate_left 1
                · intro wq hq; obtain ⟨r0, r1, r2⟩ := HMC.out wq hq.2.1; have r3 := blk_cell hq.1 0; have r4 := blk_cell hq.1 1; have r5 := HRB.out wq hq.2.2; have e0 := HE0.out; have e1 := HE1.out; have e2 := HE2.out; have e3 := HE3.out; have hxM := HXM.out; simp only [List.getElem?_toArray, List.getElem?_cons_succ, List.getElem?_cons_zero] at r3 r4; clear hq; first | (go_simp; done) | (go_simp; with_reducible rfl)
                simp only [Act.put, List.setIfInBounds_toArray, List.set_cons_zero, List.set_cons_succ]
                refine wpAnyH_ready (rs := [21]) (by kernel_rfl) (by simp) (AllReadyH.cons (o := ⟨none, _, _, _, _, _⟩) rfl (fun K hK => ?_) AllReadyH.nil)
                go_simp
                have hst := HST.out
                have hfz : wr.frozen? ⟨sb, x, none⟩ = false := by
                  obtain ⟨⟨cur, c1, c2, c3⟩, c4⟩ := HK5.out.mem
                  exact blk_frozen c1 x
                go_wp2_with fail
                · exact absurd (hfz.symm.trans (by assumption)) (by decide)
                rw [byte_val d j HJ8.out]
                have HK6 : Hid (Both W (wr.setCell ⟨sb, x, none⟩ (.int .u8 ((d / 2 ^ (8 * j) % 256 : Nat) : Int))) N q p b S2 mq sb hart0L hart0L (putWord ct off k' d) (docB ct off d (j + 1))) := by
                  have h := HK5.out.setB x (by have := HXM.out; have := HM.out; omega) (d / 2 ^ (8 * j) % 256) (Nat.mod_lt _ (by decide))
                  show Both _ _ _ _ _ _ _ _ _ _ _ _ _
                  rw [docB_step, ← HX.out]
                  exact h
                have HK7 := Lib.hid (HK6.out.on (Below.refl _ _).drew)
                refine hK.out _ _ ⟨HK7.out.pair, HK7.out.below, HK7.out.ref⟩ (fun hH => ?_)
                clear hK K
                try simp only [Act.put, List.setIfInBounds_toArray, List.set_cons_zero, List.set_cons_succ]
                refine wpAnyH_done (by kernel_rfl) ?_ _
                clear hH
                clear hst hfz
                have ej : wrap64 ((j : Int) + 1) = (j : Int) + 1 := by have := HJ8.out; unfold wrap64; omega
                go_wp2_with fail
                rw [ej]
                exact ⟨⟨j + 1, by have := HJ.out; omega, by rw [Int.natCast_succ], by have h7 := HK7.out; first | exact h7 | (push_cast at h7; exact h7)⟩, by have := HJ.out; simp [intOf]; omega⟩
              · obtain rfl : j = k' := by omega
                have HK8 := HK5
                rw [docB_all] at HK8
                have ek : wrap64 ((k : Int) + 1) = (k : Int) + 1 := by have := HLT.out.2; unfold wrap64; omega
                go_wp2_with fail
                try rw [ek]
                exact ⟨⟨k + 1, S2, _, by have := HLT.out.1; omega, by have := HLT.out.2; omega, by rw [Int.natCast_succ], HK8.out⟩, by have := HLT.out.2; simp [intOf]; omega⟩
          · have hmb : (er == 0) = false := by simp [her]
            have HPM : Hid (putM N ct y sz d = ct) := by
              show _ = _
              unfold putM
              rw [if_neg (by rw [← HER.out]; exact her)]
            rw [HPM.out] at HK4
            have ek : wrap64 ((k : Int) + 1) = (k : Int) + 1 := by have := HLT.out.2; unfold wrap64; omega
            go_wp2_with fail
            try rw [ek]
            exact ⟨⟨k + 1, S2, _, by have := HLT.out.1; omega, by have := HLT.out.2; omega, by rw [Int.natCast_succ], HK4.out⟩, by have := HLT.out.2; simp [intOf]; omega⟩
        · clear hk1 hk2
          go_wp2_with fail
          go_meet
          exact ⟨S1, ct, HK3.out⟩
      · clear hk1 hk2
        go_wp2_with fail
        go_meet
        exact ⟨S1, ct, HK3.out⟩
  case rest =>
  obtain ⟨S3, ct3, hkeep⟩ := hcut
  generalize wc = w3 at *
  have HK9 := Lib.hid hkeep
  clear hkeep HK2
  go_wp2_with fail
  go_loopw [12] (fun i wr => ∃ (k : Nat) (S : Nat → Prop) (ct : Nat → Nat), (k : Int) ≤ lm ∧ (k : Int) ≤ 30 ∧ i = .int .i64 k ∧ Both W wr N q p b S mq sb hart0L hart0L ct ct) (fun i _ => (30 - intOf i).toNat)
  case atStart => exact ⟨0, S3, ct3, by omega, by omega, rfl, HK9.out⟩
  case round =>
    obtain ⟨k, S4, ct, hk1, hk2, rfl, hkeep⟩ := hrel
    have HK10 := Lib.hid hkeep
    clear hkeep HK9
    by_cases hlt : (k : Int) < lm
    · by_cases hlt2 : (k : Int) < 30
      · clear hk1 hk2
        obtain ⟨hin, lb, lo, rfl, hlb, hlr⟩ := HLV.out k (by omega)
        have HIN : Hid (InB wnW (lev k)) := want_in ▸ hin
        have HRNG : Hid (∀ wq, Below W.heap.size W wq → wq.rangeAt lb (lo + k * 73) (cksV wantC (lev k))) := fun wq hb => rangeAt_below hlr hlb hb
        clear hin hlb hlr
        go_wp2_with fail
        refine wp_region_held_drew (S := fun wq => wq.heap[q]? = some (.cells #[.pointer (some ⟨p, 0, none⟩), .pointer (some ⟨mq, 0, none⟩)] 34 (0, 0)) ∧ wq.rangeAt lb (lo + k * 73) (cksV wantC (lev k))) (by kernel_rfl) ⟨HK10.out.pair, HRNG.out _ HK10.out.below.drew⟩ (fun hH => ?_)
        refine wpAnyH_take (i := 0) (oi := ⟨some 98, _, _, _, _, _⟩) (v := ?_) rfl (by kernel_rfl) (by kernel_rfl) (by kernel_rfl) (fun _ _ _ h => h) (Or.inl ⟨by kernel_rfl, ?_⟩) hH ?_
        rotate_left 1
        · intro wq hq; have r0 := blk_cell hq.1 0; have r1 := blk_cell hq.1 1; have r2 := rl_want hq.2; (try have r3 := HEQ.out wq); simp only [List.getElem?_toArray, List.getElem?_cons_succ, List.getElem?_cons_zero] at r0 r1; clear hq; first | (go_simp; done) | (go_simp; with_reducible rfl)
        simp only [Act.put, List.setIfInBounds_toArray, List.set_cons_zero, List.set_cons_succ]
        refine wpAnyH_take (i := 1) (oi := ⟨some 99, _, _, _, _, _⟩) (v := ?_) rfl (by kernel_rfl) (by kernel_rfl) (by kernel_rfl) (fun _ _ _ h => h) (Or.inl ⟨by kernel_rfl, ?_⟩) hH ?_
        rotate_left 1
        · intro wq hq; have r0 := blk_cell hq.1 0; have r1 := blk_cell hq.1 1; have r2 := rl_want hq.2; (try have r3 := HEQ.out wq); simp only [List.getElem?_toArray, List.getElem?_cons_succ, List.getElem?_cons_zero] at r0 r1; clear hq; first | (go_simp; done) | (go_simp; with_reducible rfl)
        simp only [Act.put, List.setIfInBounds_toArray, List.set_cons_zero, List.set_cons_succ]
        refine wpAnyH_take (i := 2) (oi := ⟨some 100, _, _, _, _, _⟩) (v := ?_) rfl (by kernel_rfl) (by kernel_rfl) (by kernel_rfl) (fun _ _ _ h => h) (Or.inl ⟨by kernel_rfl, ?_⟩) hH ?_
        rotate_left 1
        · intro wq hq; have r0 := blk_cell hq.1 0; have r1 := blk_cell hq.1 1; have r2 := rl_want hq.2; (try have r3 := HEQ.out wq); simp only [List.getElem?_toArray, List.getElem?_cons_succ, List.getElem?_cons_zero] at r0 r1; clear hq; first | (go_simp; done) | (go_simp; with_reducible rfl)
        simp only [Act.put, List.setIfInBounds_toArray, List.set_cons_zero, List.set_cons_succ]
        refine wpAnyH_take (i := 3) (oi := ⟨some 101, _, _, _, _, _⟩) (v := ?_) rfl (by kernel_rfl) (by kernel_rfl) (by kernel_rfl) (fun _ _ _ h => h) (Or.inl ⟨by kernel_rfl, ?_⟩) hH ?_
        rotate_left 1
        · intro wq hq; have r0 := blk_cell hq.1 0; have r1 := blk_cell hq.1 1; have r2 := rl_want hq.2; (try have r3 := HEQ.out wq); simp only [List.getElem?_toArray, List.getElem?_cons_succ, List.getElem?_cons_zero] at r0 r1; clear hq; first | (go_simp; done) | (go_simp; with_reducible rfl)
        simp only [Act.put, List.setIfInBounds_toArray, List.set_cons_zero, List.set_cons_succ]
        refine wpAnyH_take (i := 4) (oi := ⟨some 102, _, _, _, _, _⟩) (v := ?_) rfl (by kernel_rfl) (by kernel_rfl) (by kernel_rfl) (fun _ _ _ h => h) (Or.inl ⟨by kernel_rfl, ?_⟩) hH ?_
        rotate_left 1
        · intro wq hq; have r0 := blk_cell hq.1 0; have r1 := blk_cell hq.1 1; have r2 := rl_want hq.2; (try have r3 := HEQ.out wq); simp only [List.getElem?_toArray, List.getElem?_cons_succ, List.getElem?_cons_zero] at r0 r1; clear hq; first | (go_simp; done) | (go_simp; with_reducible rfl)
        simp only [Act.put, List.setIfInBounds_toArray, List.set_cons_zero, List.set_cons_succ]
        refine wpAnyH_take (i := 5) (oi := ⟨some 103, _, _, _, _, _⟩) (v := ?_) rfl (by kernel_rfl) (by kernel_rfl) (by kernel_rfl) (fun _ _ _ h => h) (Or.inl ⟨by kernel_rfl, ?_⟩) hH ?_
        rotate_left 1
        · intro wq hq; have r0 := blk_cell hq.1 0; have r1 := blk_cell hq.1 1; have r2 := rl_want hq.2; (try have r3 := HEQ.out wq); simp only [List.getElem?_toArray, List.getElem?_cons_succ, List.getElem?_cons_zero] at r0 r1; clear hq; first | (go_simp; done) | (go_simp; with_reducible rfl)
        simp only [Act.put, List.setIfInBounds_toArray, List.set_cons_zero, List.set_cons_succ]
        refine wpAnyH_take (i := 6) (oi := ⟨some 104, _, _, _, _, _⟩) (v := ?_) rfl (by kernel_rfl) (by kernel_rfl) (by kernel_rfl) (fun _ _ _ h => h) (Or.inl ⟨by kernel_rfl, ?_⟩) hH ?_
        rotate_left 1
        · intro wq hq; have r0 := blk_cell hq.1 0; have r1 := blk_cell hq.1 1; have r2 := rl_want hq.2; (try have r3 := HEQ.out wq); simp only [List.getElem?_toArray, List.getElem?_cons_succ, List.getElem?_cons_zero] at r0 r1; clear hq; first | (go_simp; done) | (go_simp; with_reducible rfl)
        simp only [Act.put, List.setIfInBounds_toArray, List.set_cons_zero, List.set_cons_succ]
        refine wpAnyH_take (i := 7) (oi := ⟨some 105, _, _, _, _, _⟩) (v := ?_) rfl (by kernel_rfl) (by kernel_rfl) (by kernel_rfl) (fun _ _ _ h => h) (Or.inl ⟨by kernel_rfl, ?_⟩) hH ?_
        rotate_left 1
        · intro wq hq; have r0 := blk_cell hq.1 0; have r1 := blk_cell hq.1 1; have r2 := rl_want hq.2; (try have r3 := HEQ.out wq); simp only [List.getElem?_toArray, List.getElem?_cons_succ, List.getElem?_cons_zero] at r0 r1; clear hq; first | (go_simp; done) | (go_simp; with_reducible rfl)
        simp only [Act.put, List.setIfInBounds_toArray, List.set_cons_zero, List.set_cons_succ]
        refine wpAnyH_take (i := 9) (oi := ⟨some 107, _, _, _, _, _⟩) (v := ?_) rfl (by kernel_rfl) (by kernel_rfl) (by kernel_rfl) (fun _ _ _ h => h) (Or.inl ⟨by kernel_rfl, ?_⟩) hH ?_
        rotate_left 1
        · intro wq hq; have r0 := blk_cell hq.1 0; have r1 := blk_cell hq.1 1; have r2 := rl_want hq.2; (try have r3 := HEQ.out wq); simp only [List.getElem?_toArray, List.getElem?_cons_succ, List.getElem?_cons_zero] at r0 r1; clear hq; first | (go_simp; done) | (go_simp; with_reducible rfl)
        simp only [Act.put, List.setIfInBounds_toArray, List.set_cons_zero, List.set_cons_succ]
        refine wpAnyH_take (i := 10) (oi := ⟨some 108, _, _, _, _, _⟩) (v := ?_) rfl (by kernel_rfl) (by kernel_rfl) (by kernel_rfl) (fun _ _ _ h => h) (Or.inl ⟨by kernel_rfl, ?_⟩) hH ?_
        rotate_left 1
        · intro wq hq; have r0 := blk_cell hq.1 0; have r1 := blk_cell hq.1 1; have r2 := rl_want hq.2; (try have r3 := HEQ.out wq); simp only [List.getElem?_toArray, List.getElem?_cons_succ, List.getElem?_cons_zero] at r0 r1; clear hq; first | (go_simp; done) | (go_simp; with_reducible rfl)
        simp only [Act.put, List.setIfInBounds_toArray, List.set_cons_zero, List.set_cons_succ]
        refine wpAnyH_take (i := 11) (oi := ⟨some 109, _, _, _, _, _⟩) (v := ?_) rfl (by kernel_rfl) (by kernel_rfl) (by kernel_rfl) (fun _ _ _ h => h) (Or.inl ⟨by kernel_rfl, ?_⟩) hH ?_
        rotate_left 1
        · intro wq hq; have r0 := blk_cell hq.1 0; have r1 := blk_cell hq.1 1; have r2 := rl_want hq.2; (try have r3 := HEQ.out wq); simp only [List.getElem?_toArray, List.getElem?_cons_succ, List.getElem?_cons_zero] at r0 r1; clear hq; first | (go_simp; done) | (go_simp; with_reducible rfl)
        simp only [Act.put, List.setIfInBounds_toArray, List.set_cons_zero, List.set_cons_succ]
        refine wpAnyH_take (i := 12) (oi := ⟨some 110, _, _, _, _, _⟩) (v := ?_) rfl (by kernel_rfl) (by kernel_rfl) (by kernel_rfl) (fun _ _ _ h => h) (Or.inl ⟨by kernel_rfl, ?_⟩) hH ?_
        rotate_left 1
        · intro wq hq; have r0 := blk_cell hq.1 0; have r1 := blk_cell hq.1 1; have r2 := rl_want hq.2; (try have r3 := HEQ.out wq); simp only [List.getElem?_toArray, List.getElem?_cons_succ, List.getElem?_cons_zero] at r0 r1; clear hq; first | (go_simp; done) | (go_simp; with_reducible rfl)
        simp only [Act.put, List.setIfInBounds_toArray, List.set_cons_zero, List.set_cons_succ]
        refine wpAnyH_take (i := 13) (oi := ⟨some 111, _, _, _, _, _⟩) (v := ?_) rfl (by kernel_rfl) (by kernel_rfl) (by kernel_rfl) (fun _ _ _ h => h) (Or.inl ⟨by kernel_rfl, ?_⟩) hH ?_
        rotate_left 1
        · intro wq hq; have r0 := blk_cell hq.1 0; have r1 := blk_cell hq.1 1; have r2 := rl_want hq.2; (try have r3 := HEQ.out wq); simp only [List.getElem?_toArray, List.getElem?_cons_succ, List.getElem?_cons_zero] at r0 r1; clear hq; first | (go_simp; done) | (go_simp; with_reducible rfl)
        simp only [Act.put, List.setIfInBounds_toArray, List.set_cons_zero, List.set_cons_succ]
        refine wpAnyH_take (i := 14) (oi := ⟨some 112, _, _, _, _, _⟩) (v := ?_) rfl (by kernel_rfl) (by kernel_rfl) (by kernel_rfl) (fun _ _ _ h => h) (Or.inl ⟨by kernel_rfl, ?_⟩) hH ?_
        rotate_left 1
        · intro wq hq; have r0 := blk_cell hq.1 0; have r1 := blk_cell hq.1 1; have r2 := rl_want hq.2; (try have r3 := HEQ.out wq); simp only [List.getElem?_toArray, List.getElem?_cons_succ, List.getElem?_cons_zero] at r0 r1; clear hq; first | (go_simp; done) | (go_simp; with_reducible rfl)
        simp only [Act.put, List.setIfInBounds_toArray, List.set_cons_zero, List.set_cons_succ]
        refine wpAnyH_take (i := 15) (oi := ⟨some 113, _, _, _, _, _⟩) (v := ?_) rfl (by kernel_rfl) (by kernel_rfl) (by kernel_rfl) (fun _ _ _ h => h) (Or.inl ⟨by kernel_rfl, ?_⟩) hH ?_
        rotate_left 1
        · intro wq hq; have r0 := blk_cell hq.1 0; have r1 := blk_cell hq.1 1; have r2 := rl_want hq.2; (try have r3 := HEQ.out wq); simp only [List.getElem?_toArray, List.getElem?_cons_succ, List.getElem?_cons_zero] at r0 r1; clear hq; first | (go_simp; done) | (go_simp; with_reducible rfl)
        simp only [Act.put, List.setIfInBounds_toArray, List.set_cons_zero, List.set_cons_succ]
        refine wpAnyH_take (i := 16) (oi := ⟨some 114, _, _, _, _, _⟩) (v := ?_) rfl (by kernel_rfl) (by kernel_rfl) (by kernel_rfl) (fun _ _ _ h => h) (Or.inl ⟨by kernel_rfl, ?_⟩) hH ?_
        rotate_left 1
        · intro wq hq; have r0 := blk_cell hq.1 0; have r1 := blk_cell hq.1 1; have r2 := rl_want hq.2; (try have r3 := HEQ.out wq); simp only [List.getElem?_toArray, List.getElem?_cons_succ, List.getElem?_cons_zero] at r0 r1; clear hq; first | (go_simp; done) | (go_simp; with_reducible rfl)
        simp only [Act.put, List.setIfInBounds_toArray, List.set_cons_zero, List.set_cons_succ]
        refine wpAnyH_ready (rs := [8]) (by kernel_rfl) (by simp) (AllReadyH.cons (o := ⟨some 106, _, _, _, _, _⟩) rfl (fun K hK => ?_) AllReadyH.nil)
        go_simp
        refine ((HK10.out.on (by first | exact Below.refl _ _ | exact (Below.refl _ _).drew)).access HIN.out).mono ?_
        rintro e w5 ⟨S5, rfl, hk11, hin⟩
        have HK11 := Lib.hid hk11
        have HAC := Lib.hid hin
        have HEQ := Lib.hid (fun w => run_eqGot hin w)
        clear hk11 hin
        go_wp2_with fail
        refine hK.out _ _ ⟨HK11.out.pair, HRNG.out _ HK11.out.below⟩ (fun hH => ?_)
        clear hK K
        try simp only [Act.put, List.setIfInBounds_toArray, List.set_cons_zero, List.set_cons_succ]
        refine wpAnyH_ready (rs := [17]) (by kernel_rfl) (by simp) (AllReadyH.cons (o := ⟨some 115, _, _, _, _, _⟩) rfl (fun K hK => ?_) AllReadyH.nil)
        go_simp
        refine ((HK11.out.on (by first | exact Below.refl _ _ | exact (Below.refl _ _).drew)).raccess HK10.out.macW HIN.out HAC.out).mono ?_
        rintro e w6 ⟨rfl, hk12⟩
        have HK12 := Lib.hid hk12
        clear hk12
        go_wp2_with fail
        refine hK.out _ _ ⟨HK12.out.pair, HRNG.out _ HK12.out.below⟩ (fun hH => ?_)
        clear hK K
        try simp only [Act.put, List.setIfInBounds_toArray, List.set_cons_zero, List.set_cons_succ]
        refine wpAnyH_take (i := 18) (oi := ⟨some 116, _, _, _, _, _⟩) (v := ?_) rfl (by kernel_rfl) (by kernel_rfl) (by kernel_rfl) (fun _ _ _ h => h) (Or.inl ⟨by kernel_rfl, ?_⟩) hH ?_
        rotate_left 1
        · intro wq hq; have r0 := blk_cell hq.1 0; have r1 := blk_cell hq.1 1; have r2 := rl_want hq.2; (try have r3 := HEQ.out wq); simp only [List.getElem?_toArray, List.getElem?_cons_succ, List.getElem?_cons_zero] at r0 r1; clear hq; first | (go_simp; done) | (go_simp; with_reducible rfl)
        simp only [Act.put, List.setIfInBounds_toArray, List.set_cons_zero, List.set_cons_succ]
        refine wpAnyH_done (by kernel_rfl) ?_ _
        clear hH
        clear HEQ
        go_wp2_with fail
        have ek : wrap64 ((k : Int) + 1) = (k : Int) + 1 := by unfold wrap64; omega
        try rw [ek]
        exact ⟨⟨k + 1, S5, _, by omega, by omega, by rw [Int.natCast_succ], HK12.out⟩, by simp [intOf]; omega⟩
      · clear hk1 hk2
        go_wp2_with fail
        refine (both_alike HK10.out hart0_in).mono ?_
        rintro e w5 ⟨rfl, hb⟩
        have HB := Lib.hid (HK10.out.on hb).below
        clear hb
        go_wp2_with fail
        try go_ret
        exact ⟨rfl, HB.out⟩
    · go_wp2_with fail
      refine (both_alike HK10.out hart0_in).mono ?_
      rintro e w5 ⟨rfl, hb⟩
      have HB := Lib.hid (HK10.out.on hb).below
      clear hb
      go_wp2_with fail
      try go_ret
      exact ⟨rfl, HB.out⟩
end Go.Proofs.YtkogjjeoihnjpaaGreat
end
