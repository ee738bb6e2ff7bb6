/- The law RamPlays, walked. No condition. -/
import Derived.Test.YtebdbbpefmgooaaRamOps
import Derived.StillTailTactics
import Derived.BigRegion
import Derived.Deep.RegionWith
import Derived.Deep.RegionHeld3
import Derived.Deep.QuietTactic
import Derived.BigQuiet
import Derived.Deep.LoopGhost
import Derived.Deep.DeepCutAuto
import Derived.Deep.DeepFit
import Derived.Deep.DeepMust
import Derived.Handy
set_option linter.unusedVariables false
set_option linter.unusedSimpArgs false
namespace Go.Proofs.Ytebdbbpefmgooaa
open Go.RowKit
set_option maxRecDepth 100000
set_option maxHeartbeats 1000000 in
theorem plays_none (w : World) (n : Int) (hn : n < 4 ∨ 256 < n) (a : Option Addr) (len cap : Nat) :
    Calls Try.prog 13 #[.int .i64 n, .slice a len cap] w fun e w' => e = .returned (.bool true) ∧ Below w.heap.size w w' := by
  have HN := Lib.hid hn
  clear hn
  go_enter Try.func13, Try.ntmps13
  go_wp2_with fail
  refine (ram_new_arg n HN.out w).mono ?_
  rintro e w1 ⟨rfl, rfl⟩
  go_wp2_with fail
  refine (refm_new_arg n HN.out w).mono ?_
  rintro e w1 ⟨rfl, rfl⟩
  go_wp2_with fail
  refine (ram_awake w).mono ?_
  rintro e w1 ⟨rfl, hb⟩
  have HB := Lib.hid hb
  clear hb
  go_wp2_with fail
  go_ret
  exact ⟨rfl, HB.out⟩
/-- between two rounds -/
def PlaysM (w : World) (n wb k : Nat) (r i : Value) (wr : World) : Prop :=
  i = .int .i64 k ∧ ∃ b ct S rv c m, r = .pointer (some ⟨b, 0, none⟩) ∧ Both wr w.heap.size b n wb ct S rv c m ∧ m ≤ 200 * k ∧ Below w.heap.size w wr
set_option maxHeartbeats 16000000 in
theorem plays_some (w : World) (n : Nat) (h4 : 4 ≤ n) (h256 : n ≤ 256) (a : Option Addr) (len cap : Nat) (hmax : (len : Int) ≤ 9223372036854775807) (z : Nat → RamOp) (hz : RamOps w a len z) :
    Calls Try.prog 13 #[.int .i64 n, .slice a len cap] w fun e w' => e = .returned (.bool true) ∧ Below w.heap.size w w' := by
  have n4 : (4 : Int) ≤ n := by omega
  have n256 : (n : Int) ≤ 256 := by omega
  have HZ := Lib.hid hz
  have HM := Lib.hid hmax
  clear hz
  have HNW := Lib.hid (ram_new n h4 h256 w)
  clear h4 h256
  go_enter Try.func13, Try.ntmps13
  go_wp2_with fail
  refine HNW.out.mono ?_
  rintro e w1 ⟨b0, S0, rfl, hat, hS, hbb, hb1⟩
  have HAT := Lib.hid hat; have HS := Lib.hid hS; have HBB := Lib.hid hbb; have HB1 := Lib.hid hb1
  clear hat hS hbb hb1 HNW
  go_wp2_with fail
  refine (refm_new n n4 n256 w1).mono ?_
  rintro e w2 ⟨rfl, rfl⟩
  have HBO : Hid (Both (w1.alloc (.cells #[.int .i64 n, .slice none 0 0] 97)) w.heap.size b0 n w1.heap.size (fun _ => 0) S0 (.slice none 0 0) (fun _ => (0, 0)) 0) := by
    have h1 := HAT.out.below ((Below.refl w1.heap.size w1).alloc (Nat.le_refl _) (.cells #[.int .i64 n, .slice none 0 0] 97))
    have h2 := refm_start w1 n
    refine ⟨h1, ⟨h2.at_, World.ownsRow_nil _ _ _ _, HB1.out.size, h2.bd, h2.max⟩, fun i _ => rfl, ?_, ?_, (fun g hg => nomatch hg), HBB.out, HB1.out.size, HS.out⟩
    · have := HAT.out.self.2; omega
    · intro e; have := HAT.out.lt e; omega
  have HBE : Hid (Below w.heap.size w (w1.alloc (.cells #[.int .i64 n, .slice none 0 0] 97))) := HB1.out.alloc HB1.out.size _
  generalize w1.heap.size = wb at *
  clear HAT HS HBB HB1
  go_wp2_with fail
  refine (ram_awake _).mono ?_
  rintro e w3 ⟨rfl, hb3⟩
  have HST : Hid (PlaysM w n wb 0 (.pointer (some ⟨b0, 0, none⟩)) (.int .i64 (0 : Nat)) w3) := ⟨rfl, b0, _, _, _, _, _, rfl, HBO.out.below hb3, Nat.le_refl _, HBE.out.trans (hb3.mono HBE.out.size)⟩
  clear hb3 HBO HBE
  go_wp2_with fail
  go_loopw [5, 9] (fun r i wr => ∃ k : Nat, (k : Int) ≤ len ∧ (k : Int) ≤ 60 ∧ PlaysM w n wb k r i wr) (fun _ i _ => 60 - (intOf i).toNat)
  case atStart => exact ⟨0, by omega, by omega, HST.out⟩
  case round =>
    clear HST
    obtain ⟨k, hk, hk60, rfl, b, ct, S, rv, c, m, rfl, hbo, hm, hbe⟩ := hrel
    have HBO := Lib.hid hbo; have HMM := Lib.hid hm; have HBE := Lib.hid hbe
    clear hbo hm hbe
    by_cases hlt : (k : Int) < len
    · by_cases hlt60 : (k : Int) < 60
      · clear hk hk60
        obtain ⟨hok, bo, oo, rfl, hbl, hrange⟩ := HZ.out k (by omega)
        have hrange2 : wr.rangeAt bo (oo + k * 7) (z k).vals := fun j v hv => (HBE.out.cell (p := ⟨bo, oo + k * 7 + j, none⟩) hbl).trans (hrange j v hv)
        clear hrange
        generalize z k = op at hok hrange2
        obtain ⟨kd, kk, x, raw, a4, l4, ca4, a5, l5, ca5, v, V, Z⟩ := op
        have c0 : wr.cell? ⟨bo, oo + k * 7, none⟩ = some (.int .i64 kd) := hrange2 0 _ rfl
        have c1 : wr.cell? ⟨bo, oo + k * 7 + 1, none⟩ = some (.int .i64 kk) := hrange2 1 _ rfl
        have c2 : wr.cell? ⟨bo, oo + k * 7 + 1 + 1, none⟩ = some (.int .u64 x) := hrange2 2 _ rfl
        have c3 : wr.cell? ⟨bo, oo + k * 7 + 1 + 1 + 1, none⟩ = some (.bool raw) := hrange2 3 _ rfl
        have c4 : wr.cell? ⟨bo, oo + k * 7 + 1 + 1 + 1 + 1, none⟩ = some (.slice a4 l4 ca4) := hrange2 4 _ rfl
        have c5 : wr.cell? ⟨bo, oo + k * 7 + 1 + 1 + 1 + 1 + 1, none⟩ = some (.slice a5 l5 ca5) := hrange2 5 _ rfl
        have c6 : wr.cell? ⟨bo, oo + k * 7 + 1 + 1 + 1 + 1 + 1 + 1, none⟩ = some (.int .u64 v) := hrange2 6 _ rfl
        have HOK := Lib.hid hok
        clear hok hrange2
        have HF : Hid (InRow w a4 l4 ca4 (fun i => .int .u8 (V i))) := HOK.out.row
        have HF2 : Hid (InRow w a5 l5 ca5 (fun i => .bool (Z i))) := HOK.out.row2
        go_upto_if 57 with fail
        go_cut [10] (fun s10 wx => s10 = .pointer (some ⟨wr.heap.size, 0, none⟩) ∧ ∃ lq : Nat, (lq : Int) ≤ 200 ∧ lq ≤ l4 ∧ wx.heap[wr.heap.size]? = some (.cells #[.int .i64 kd, .int .i64 kk, .int .u64 x, .bool raw, .slice a4 lq ca4, .slice a5 l5 ca5, .int .u64 v] 91 (0, 0)) ∧ Below wr.heap.size wr wx)
        case first =>
          clear c0 c1 c2 c3 c4 c5 c6
          by_cases h2 : (l4 : Int) ≤ 200
          · have HBB := Lib.hid ((Below.refl wr.heap.size wr).alloc (Nat.le_refl _) (.cells #[.int .i64 kd, .int .i64 kk, .int .u64 x, .bool raw, .slice a4 l4 ca4, .slice a5 l5 ca5, .int .u64 v] 91))
            go_wp2_with fail
            go_meet
            exact ⟨rfl, l4, h2, Nat.le_refl _, blk_alloc _ _, HBB.out⟩
          · obtain ⟨b4, o4, rfl, hb4, _⟩ := HF.out.row (by have := HF.out.le; omega)
            have hcap : (200 : Int) ≤ ca4 := by have := HF.out.le; omega
            go_wp2_with fail
            go_meet
            exact ⟨rfl, 200, by omega, by omega, blk_alloc _ _, (Below.refl wr.heap.size wr).alloc (Nat.le_refl _) _⟩
        case rest =>
          clear c0 c1 c2 c3 c4 c5 c6
          obtain ⟨rfl, lq, hq1, hq2, hblk, hbx⟩ := hcut
          generalize wc = wx at *
          have HBX := Lib.hid (HBO.out.below hbx)
          have HWX : Hid (Below w.heap.size w wx) := HBE.out.trans (hbx.mono HBE.out.size)
          have HBK := Lib.hid hblk
          have HBB := Lib.hid hbx
          have q0 : wx.cell? ⟨wr.heap.size, 0, none⟩ = some (.int .i64 kd) := blk_cell hblk 0
          clear hblk hbx
          by_cases h5 : kd = 5
          · subst h5
            have HC0 : Hid (ct 0 < 256) := HBX.out.ram.bd 0
            go_wp2_with fail
            refine (own2_fork HBX.out.ram).mono ?_
            rintro e w1 ⟨rfl, h1⟩
            have H1 := Lib.hid h1
            clear h1 q0
            have HGG : Hid (wx.heap.size ≤ wx.heap.size + 1) := Nat.le_succ _
            generalize wx.heap.size + 1 = g at *
            have hg1 : wx.heap.size ≤ g := HGG.out
            go_wp2_with fail
            refine (own2_same HBX.out.ram H1.out true ⟨fun _ _ _ => rfl, fun _ => rfl⟩).mono ?_
            rintro e w2 ⟨rfl, h2⟩
            have H2 := Lib.hid h2
            clear h2 H1
            go_wp2_with fail
            refine (own2_same2 HBX.out.ram H2.out true ⟨fun _ _ _ => rfl, fun _ => rfl⟩).mono ?_
            rintro e w3 ⟨rfl, h3⟩
            have H3 := Lib.hid h3
            clear h3 H2
            go_wp2_with fail
            refine (own2_word H3.out).mono ?_
            rintro e w4 ⟨rfl, h4⟩
            have H4 := Lib.hid h4
            clear h4 H3
            have HNE := Lib.hid (put0_ne (n := n) (by omega) HC0.out)
            have HBA := Lib.hid (put0_back HC0.out)
            generalize hcc : ct 0 = cc at *
            have g0 : (0 : Int) ≤ (cc : Int) := by omega
            have g1 : (cc : Int) < 256 := by have := HC0.out; omega
            clear hcc
            go_wp2_with fail
            refine (own2_put H4.out ((cc : Int) + 1) (by omega)).mono ?_
            rintro e w5 ⟨rfl, h5⟩
            rw [show ((cc : Int) + 1).toNat = cc + 1 by omega] at h5
            have H5 := Lib.hid h5
            clear h5 H4
            go_wp2_with fail
            refine (own2_same HBX.out.ram H5.out false ⟨(fun h => Bool.noConfusion h), (fun h => absurd h HNE.out)⟩).mono ?_
            rintro e w6 ⟨rfl, h6⟩
            have H6 := Lib.hid h6
            clear h6 H5
            go_wp2_with fail
            refine (own2_put H6.out (cc : Int) g0).mono ?_
            rintro e w7 ⟨rfl, h7⟩
            rw [show ((cc : Int)).toNat = cc by omega, HBA.out] at h7
            have H7 := Lib.hid h7
            clear h7 H6
            go_wp2_with fail
            refine (own2_same HBX.out.ram H7.out true ⟨fun _ _ _ => rfl, fun _ => rfl⟩).mono ?_
            rintro e w8 ⟨rfl, h8⟩
            have HZZ : Hid (PlaysM w n wb (k + 1) (.pointer (some ⟨g, 0, none⟩)) (.int .i64 ((k + 1 : Nat) : Int)) w8) := by
              obtain ⟨S', hS'⟩ := HBX.out.copy HGG.out h8
              obtain ⟨_, _, _, hbw⟩ := h8
              exact ⟨rfl, g, ct, S', rv, c, m, rfl, hS', by have := HMM.out; omega, HWX.out.trans (hbw.mono HWX.out.size)⟩
            clear h8 H7
            go_wp2_with fail
            exact ⟨⟨k + 1, by omega, by omega, by rw [Int.natCast_succ] at HZZ; exact HZZ.out⟩, by simp [intOf]; omega⟩
          · have e5 : (kd == 5) = false := bq h5
            clear h5
            have HRF : Hid (wx.cell? ⟨wb, 0, none⟩ = some (.int .i64 n)) := blk_cell HBX.out.ref.at_ 0
            have HTH : Hid (¬ Theirs wb S rv wr.heap.size) := fun e => by have := HBO.out.theirs_lt _ e; omega
            have hmx : (m : Int) + 200 ≤ 100000000 := by have := HMM.out; omega
            have HSTEP := Lib.hid (step_any (w := wx.drew) (HBX.out.below (Below.refl _ _).drew) n4 n256 hmx kd kk x v raw a4 a5 lq ca4 l5 ca5 HOK.out.x.1 HOK.out.x.2 HOK.out.v.1 HOK.out.v.2 V HOK.out.V hq1 HF.out.nil (Nat.le_trans hq2 HF.out.le)
              (isRow_below ((HF.out.row).le (Nat.le_trans hq2 HF.out.le)) (HWX.out.drew) (fun h0 => InRow.lt HF.out (by omega))) (fun h0 => InRow.lt HF.out (by omega))
              Z (by have h1 := HF2.out.le; have h2 := HF2.out.big; omega) HF2.out.nil HF2.out.le
              (isRow_below ((HF2.out.row).le HF2.out.le) (HWX.out.drew) (fun h0 => InRow.lt HF2.out h0)) (fun h0 => InRow.lt HF2.out h0))
            clear hmx
            go_wp2_with fail
            refine wp_region_held_drew (S := fun wq => wq.heap[wr.heap.size]? = some (.cells #[.int .i64 kd, .int .i64 kk, .int .u64 x, .bool raw, .slice a4 lq ca4, .slice a5 l5 ca5, .int .u64 v] 91 (0, 0)) ∧ wq.cell? ⟨wb, 0, none⟩ = some (.int .i64 n)) (by kernel_rfl) ⟨HBK.out, HRF.out⟩ (fun hH => ?_)
            refine wpAnyH_take (i := 0) (oi := ⟨some 109, _, _, _, _, _⟩) (v := ?_) rfl (by kernel_rfl) (by kernel_rfl) (by kernel_rfl) (fun _ _ _ h => h) (Or.inl ⟨by kernel_rfl, ?_⟩) hH ?_
            rotate_left 1
            · intro wq hq; obtain ⟨hq1, hq2⟩ := hq; have c0 := blk_cell hq1 0; have c1 := blk_cell hq1 1; have c2 := blk_cell hq1 2; have c3 := blk_cell hq1 3; have c4 := blk_cell hq1 4; have c5 := blk_cell hq1 5; have c6 := blk_cell hq1 6; simp only [List.getElem?_toArray, List.getElem?_cons_succ, List.getElem?_cons_zero] at c0 c1 c2 c3 c4 c5 c6; first | (go_simp; done) | (go_simp; with_reducible rfl)
            simp only [Act.put, List.setIfInBounds_toArray, List.set_cons_zero, List.set_cons_succ]
            refine wpAnyH_take (i := 1) (oi := ⟨some 110, _, _, _, _, _⟩) (v := ?_) rfl (by kernel_rfl) (by kernel_rfl) (by kernel_rfl) (fun _ _ _ h => h) (Or.inl ⟨by kernel_rfl, ?_⟩) hH ?_
            rotate_left 1
            · intro wq hq; obtain ⟨hq1, hq2⟩ := hq; have c0 := blk_cell hq1 0; have c1 := blk_cell hq1 1; have c2 := blk_cell hq1 2; have c3 := blk_cell hq1 3; have c4 := blk_cell hq1 4; have c5 := blk_cell hq1 5; have c6 := blk_cell hq1 6; simp only [List.getElem?_toArray, List.getElem?_cons_succ, List.getElem?_cons_zero] at c0 c1 c2 c3 c4 c5 c6; first | (go_simp; done) | (go_simp; with_reducible rfl)
            simp only [Act.put, List.setIfInBounds_toArray, List.set_cons_zero, List.set_cons_succ]
            refine wpAnyH_take (i := 2) (oi := ⟨some 111, _, _, _, _, _⟩) (v := ?_) rfl (by kernel_rfl) (by kernel_rfl) (by kernel_rfl) (fun _ _ _ h => h) (Or.inl ⟨by kernel_rfl, ?_⟩) hH ?_
            rotate_left 1
            · intro wq hq; obtain ⟨hq1, hq2⟩ := hq; have c0 := blk_cell hq1 0; have c1 := blk_cell hq1 1; have c2 := blk_cell hq1 2; have c3 := blk_cell hq1 3; have c4 := blk_cell hq1 4; have c5 := blk_cell hq1 5; have c6 := blk_cell hq1 6; simp only [List.getElem?_toArray, List.getElem?_cons_succ, List.getElem?_cons_zero] at c0 c1 c2 c3 c4 c5 c6; first | (go_simp; done) | (go_simp; with_reducible rfl)
            simp only [Act.put, List.setIfInBounds_toArray, List.set_cons_zero, List.set_cons_succ]
            refine wpAnyH_ready (rs := [3]) (by kernel_rfl) (by simp) (AllReadyH.cons (o := ⟨some 112, _, _, _, _, _⟩) rfl (fun K hK => ?_) AllReadyH.nil)
            go_simp
            refine HSTEP.out.mono ?_
            rintro e w3 ⟨rfl, h3⟩
            have HT3 : Hid (Turned (Theirs wb S rv) wx.drew w3) := by obtain ⟨_, _, _, _, _, _, _, r⟩ := h3; exact r
            have HZ3 : Hid (∃ ct S rv c m, Both w3 w.heap.size b n wb ct S rv c m ∧ m ≤ 200 * (k + 1) ∧ Below w.heap.size w w3) := by
              obtain ⟨ct', S', rv', c', m', g1, g2, g3⟩ := h3
              exact ⟨ct', S', rv', c', m', g1, by have := HMM.out; omega, HWX.out.drew.trans (g3.below HWX.out.size HBX.out.theirs_lo)⟩
            clear h3 HSTEP
            go_wp2_with fail
            refine hK.out _ _ ?_ (fun hH => ?_)
            · refine ⟨(HT3.out.block _ (blk_lt hH.1) HTH.out).trans hH.1, ?_⟩
              obtain ⟨_, _, _, _, _, g1, _⟩ := HZ3.out
              exact blk_cell g1.ref.at_ 0
            clear hK K
            try simp only [Act.put, List.setIfInBounds_toArray, List.set_cons_zero, List.set_cons_succ]
            refine wpAnyH_take (i := 4) (oi := ⟨some 113, _, _, _, _, _⟩) (v := ?_) rfl (by kernel_rfl) (by kernel_rfl) (by kernel_rfl) (fun _ _ _ h => h) (Or.inl ⟨by kernel_rfl, ?_⟩) hH ?_
            rotate_left 1
            · intro wq hq; obtain ⟨hq1, hq2⟩ := hq; have c0 := blk_cell hq1 0; have c1 := blk_cell hq1 1; have c2 := blk_cell hq1 2; have c3 := blk_cell hq1 3; have c4 := blk_cell hq1 4; have c5 := blk_cell hq1 5; have c6 := blk_cell hq1 6; simp only [List.getElem?_toArray, List.getElem?_cons_succ, List.getElem?_cons_zero] at c0 c1 c2 c3 c4 c5 c6; first | (go_simp; done) | (go_simp; with_reducible rfl)
            simp only [Act.put, List.setIfInBounds_toArray, List.set_cons_zero, List.set_cons_succ]
            refine wpAnyH_take (i := 5) (oi := ⟨some 114, _, _, _, _, _⟩) (v := ?_) rfl (by kernel_rfl) (by kernel_rfl) (by kernel_rfl) (fun _ _ _ h => h) (Or.inl ⟨by kernel_rfl, ?_⟩) hH ?_
            rotate_left 1
            · intro wq hq; obtain ⟨hq1, hq2⟩ := hq; have c0 := blk_cell hq1 0; have c1 := blk_cell hq1 1; have c2 := blk_cell hq1 2; have c3 := blk_cell hq1 3; have c4 := blk_cell hq1 4; have c5 := blk_cell hq1 5; have c6 := blk_cell hq1 6; simp only [List.getElem?_toArray, List.getElem?_cons_succ, List.getElem?_cons_zero] at c0 c1 c2 c3 c4 c5 c6; first | (go_simp; done) | (go_simp; with_reducible rfl)
            simp only [Act.put, List.setIfInBounds_toArray, List.set_cons_zero, List.set_cons_succ]
            refine wpAnyH_take (i := 6) (oi := ⟨some 115, _, _, _, _, _⟩) (v := ?_) rfl (by kernel_rfl) (by kernel_rfl) (by kernel_rfl) (fun _ _ _ h => h) (Or.inl ⟨by kernel_rfl, ?_⟩) hH ?_
            rotate_left 1
            · intro wq hq; obtain ⟨hq1, hq2⟩ := hq; have c0 := blk_cell hq1 0; have c1 := blk_cell hq1 1; have c2 := blk_cell hq1 2; have c3 := blk_cell hq1 3; have c4 := blk_cell hq1 4; have c5 := blk_cell hq1 5; have c6 := blk_cell hq1 6; simp only [List.getElem?_toArray, List.getElem?_cons_succ, List.getElem?_cons_zero] at c0 c1 c2 c3 c4 c5 c6; first | (go_simp; done) | (go_simp; with_reducible rfl)
            simp only [Act.put, List.setIfInBounds_toArray, List.set_cons_zero, List.set_cons_succ]
            refine wpAnyH_take (i := 8) (oi := ⟨some 117, _, _, _, _, _⟩) (v := ?_) rfl (by kernel_rfl) (by kernel_rfl) (by kernel_rfl) (fun _ _ _ h => h) (Or.inl ⟨by kernel_rfl, ?_⟩) hH ?_
            rotate_left 1
            · intro wq hq; obtain ⟨hq1, hq2⟩ := hq; have c0 := blk_cell hq1 0; have c1 := blk_cell hq1 1; have c2 := blk_cell hq1 2; have c3 := blk_cell hq1 3; have c4 := blk_cell hq1 4; have c5 := blk_cell hq1 5; have c6 := blk_cell hq1 6; simp only [List.getElem?_toArray, List.getElem?_cons_succ, List.getElem?_cons_zero] at c0 c1 c2 c3 c4 c5 c6; first | (go_simp; done) | (go_simp; with_reducible rfl)
            simp only [Act.put, List.setIfInBounds_toArray, List.set_cons_zero, List.set_cons_succ]
            refine wpAnyH_take (i := 9) (oi := ⟨some 118, _, _, _, _, _⟩) (v := ?_) rfl (by kernel_rfl) (by kernel_rfl) (by kernel_rfl) (fun _ _ _ h => h) (Or.inl ⟨by kernel_rfl, ?_⟩) hH ?_
            rotate_left 1
            · intro wq hq; obtain ⟨hq1, hq2⟩ := hq; have c0 := blk_cell hq1 0; have c1 := blk_cell hq1 1; have c2 := blk_cell hq1 2; have c3 := blk_cell hq1 3; have c4 := blk_cell hq1 4; have c5 := blk_cell hq1 5; have c6 := blk_cell hq1 6; simp only [List.getElem?_toArray, List.getElem?_cons_succ, List.getElem?_cons_zero] at c0 c1 c2 c3 c4 c5 c6; first | (go_simp; done) | (go_simp; with_reducible rfl)
            simp only [Act.put, List.setIfInBounds_toArray, List.set_cons_zero, List.set_cons_succ]
            refine wpAnyH_take (i := 10) (oi := ⟨some 119, _, _, _, _, _⟩) (v := ?_) rfl (by kernel_rfl) (by kernel_rfl) (by kernel_rfl) (fun _ _ _ h => h) (Or.inl ⟨by kernel_rfl, ?_⟩) hH ?_
            rotate_left 1
            · intro wq hq; obtain ⟨hq1, hq2⟩ := hq; have c0 := blk_cell hq1 0; have c1 := blk_cell hq1 1; have c2 := blk_cell hq1 2; have c3 := blk_cell hq1 3; have c4 := blk_cell hq1 4; have c5 := blk_cell hq1 5; have c6 := blk_cell hq1 6; simp only [List.getElem?_toArray, List.getElem?_cons_succ, List.getElem?_cons_zero] at c0 c1 c2 c3 c4 c5 c6; first | (go_simp; done) | (go_simp; with_reducible rfl)
            simp only [Act.put, List.setIfInBounds_toArray, List.set_cons_zero, List.set_cons_succ]
            refine wpAnyH_take (i := 11) (oi := ⟨some 120, _, _, _, _, _⟩) (v := ?_) rfl (by kernel_rfl) (by kernel_rfl) (by kernel_rfl) (fun _ _ _ h => h) (Or.inl ⟨by kernel_rfl, ?_⟩) hH ?_
            rotate_left 1
            · intro wq hq; obtain ⟨hq1, hq2⟩ := hq; have c0 := blk_cell hq1 0; have c1 := blk_cell hq1 1; have c2 := blk_cell hq1 2; have c3 := blk_cell hq1 3; have c4 := blk_cell hq1 4; have c5 := blk_cell hq1 5; have c6 := blk_cell hq1 6; simp only [List.getElem?_toArray, List.getElem?_cons_succ, List.getElem?_cons_zero] at c0 c1 c2 c3 c4 c5 c6; first | (go_simp; done) | (go_simp; with_reducible rfl)
            simp only [Act.put, List.setIfInBounds_toArray, List.set_cons_zero, List.set_cons_succ]
            refine wpAnyH_ready (rs := [7]) (by kernel_rfl) (by simp) (AllReadyH.cons (o := ⟨some 116, _, _, _, _, _⟩) rfl (fun K hK => ?_) AllReadyH.nil)
            go_simp
            obtain ⟨ct3, S3, rv3, c3, m3, hb3, hm3, hw3⟩ := HZ3.out
            refine (ram_pages hb3.ram).mono ?_
            rintro e w4 ⟨rfl, rfl⟩
            have HZZ : Hid (PlaysM w n wb (k + 1) (.pointer (some ⟨b, 0, none⟩)) (.int .i64 ((k + 1 : Nat) : Int)) w3) := ⟨rfl, b, ct3, S3, rv3, c3, m3, rfl, hb3, hm3, hw3⟩
            clear hb3 hm3 hw3 HZ3
            go_wp2_with fail
            refine hK.out _ _ ?_ (fun hH => ?_)
            · exact hH
            clear hK K
            try simp only [Act.put, List.setIfInBounds_toArray, List.set_cons_zero, List.set_cons_succ]
            refine wpAnyH_take (i := 12) (oi := ⟨some 121, _, _, _, _, _⟩) (v := ?_) rfl (by kernel_rfl) (by kernel_rfl) (by kernel_rfl) (fun _ _ _ h => h) (Or.inl ⟨by kernel_rfl, ?_⟩) hH ?_
            rotate_left 1
            · intro wq hq; obtain ⟨hq1, hq2⟩ := hq; have c0 := blk_cell hq1 0; have c1 := blk_cell hq1 1; have c2 := blk_cell hq1 2; have c3 := blk_cell hq1 3; have c4 := blk_cell hq1 4; have c5 := blk_cell hq1 5; have c6 := blk_cell hq1 6; simp only [List.getElem?_toArray, List.getElem?_cons_succ, List.getElem?_cons_zero] at c0 c1 c2 c3 c4 c5 c6; first | (go_simp; done) | (go_simp; with_reducible rfl)
            simp only [Act.put, List.setIfInBounds_toArray, List.set_cons_zero, List.set_cons_succ]
            refine wpAnyH_take (i := 13) (oi := ⟨some 122, _, _, _, _, _⟩) (v := ?_) rfl (by kernel_rfl) (by kernel_rfl) (by kernel_rfl) (fun _ _ _ h => h) (Or.inl ⟨by kernel_rfl, ?_⟩) hH ?_
            rotate_left 1
            · intro wq hq; obtain ⟨hq1, hq2⟩ := hq; have c0 := blk_cell hq1 0; have c1 := blk_cell hq1 1; have c2 := blk_cell hq1 2; have c3 := blk_cell hq1 3; have c4 := blk_cell hq1 4; have c5 := blk_cell hq1 5; have c6 := blk_cell hq1 6; simp only [List.getElem?_toArray, List.getElem?_cons_succ, List.getElem?_cons_zero] at c0 c1 c2 c3 c4 c5 c6; first | (go_simp; done) | (go_simp; with_reducible rfl)
            simp only [Act.put, List.setIfInBounds_toArray, List.set_cons_zero, List.set_cons_succ]
            refine wpAnyH_done (by kernel_rfl) ?_ _
            go_wp2_with fail
            exact ⟨⟨k + 1, by omega, by omega, by rw [Int.natCast_succ] at HZZ; exact HZZ.out⟩, by simp [intOf]; omega⟩
      · clear hk
        obtain rfl : k = 60 := by omega
        go_wp2_with fail
        go_ret
        exact ⟨rfl, HBE.out⟩
    · clear hk
      by_cases hlt60 : (k : Int) < 60
      · go_wp2_with fail
        go_ret
        exact ⟨rfl, HBE.out⟩
      · go_wp2_with fail
        go_ret
        exact ⟨rfl, HBE.out⟩
theorem ram_plays_walk (w : World) (n : Int) (wn : (Lit.int .i64 n).wf = true) (a : Option Addr) (len cap : Nat) (z : Nat → RamOp) (hle : len ≤ cap) (hm : cap ≤ 9223372036854775807) (hz : RamOps w a cap z) :
    Calls Try.prog 13 #[.int .i64 n, .slice a len cap] w fun e w' => e = .returned (.bool true) ∧ Below w.heap.size w w' := by
  by_cases h : n < 4 ∨ 256 < n
  · exact plays_none w n h a len cap
  · obtain ⟨k, rfl⟩ := Int.eq_ofNat_of_zero_le (show 0 ≤ n by omega)
    exact plays_some w k (by omega) (by omega) a len cap (by omega) z (fun i hi => hz i (by omega))
end Go.Proofs.Ytebdbbpefmgooaa
