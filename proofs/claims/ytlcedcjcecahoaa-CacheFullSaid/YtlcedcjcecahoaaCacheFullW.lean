/- The law CacheFull, walked. No condition. -/
import Derived.Test.YtlcedcjcecahoaaCache8
import Derived.StillTailTactics
import Derived.BigRegion
import Derived.Deep.RegionWith
import Derived.Deep.RegionHeld3
import Derived.Deep.RegionLaw
import Derived.Deep.QuietTactic
import Derived.BigQuiet
import Derived.Deep.LoopGhost
import Derived.Deep.DeepCutAuto
import Derived.Deep.DeepFit
import Derived.Deep.DeepMust
import Derived.Handy
set_option linter.unusedVariables false
set_option linter.unusedSimpArgs false
namespace Go.Proofs.Ytlcedcjcecahoaa
open Go.RowKit
set_option maxRecDepth 100000
theorem wayI_some {m : Nat} {L : Nat → CLine} {x : Int} {i : Nat} (hi : i < m) (h : isLine x (L i) = true) : 0 ≤ wayI m L x := by
  rcases wayI_cases m L x with ⟨_, hn⟩ | ⟨k, _, e, _⟩
  · rw [hn i hi] at h; cases h
  · omega
theorem isLine_v {x : Int} {l : CLine} (h : isLine x l = true) : l.v = true := by
  unfold isLine at h
  simp at h
  exact h.1
theorem isLine_put {x : Int} {l : CLine} (at_ k v : Nat) : isLine x (putL l at_ k v) = isLine x l := rfl
/-- the way that Fill takes is none that holds the line touched last -/
theorem fillWay_ne {m s i : Nat} {L : Nat → CLine} (hv : (L i).v = true) (hi : victim m s ≠ i) : fillWay m L s ≠ i := by
  unfold fillWay
  split
  · rename_i h
    intro e
    have := first_at m (fun j => !(L j).v) h
    rw [e] at this
    simp [hv] at this
  · exact hi
/-- the line touched last is there, and not the next to go -/
def LastIn (nn : Nat) (L : Nat → CLine) (s : Nat) (la : Int) (sm : Bool) : Prop := sm = true → ∃ i, i < nn ∧ isLine la (L i) = true ∧ victim nn s ≠ i
/-- between two rounds -/
def FullS (w : World) (b sb : Nat) (wb : Nat → Nat) (nn : Nat) (sm : Bool) (last : Value) (wr : World) : Prop :=
  ∃ L st la, last = .int .u64 la ∧ 0 ≤ la ∧ la < 18446744073709551616 ∧ CacheIs wr b sb wb 1 nn L st ∧ LastIn nn (L 0) (st 0) la sm ∧ Below w.heap.size w wr
theorem upS_same (st : Nat → Nat) (s t : Nat) : upS st s t s = t := by simp [upS]
theorem LastIn.touch {nn : Nat} (hm : Ways nn) {L : Nat → CLine} {s i : Nat} {x : Int} (hs : s < 2 ^ (nn - 1)) (hi : i < nn) (h : isLine x (L i) = true) (sm : Bool) : LastIn nn L (touched nn s i) x sm := fun _ => ⟨i, hi, h, (touched_ok hm hs hi).2⟩
set_option maxHeartbeats 16000000 in
theorem full_walk (w : World) (ways seed : Int) (s0 : 0 ≤ seed) (s1 : seed < 18446744073709551616) (a1 : Option Addr) (l1 c1 : Nat) (z1 : Nat → Int) (r1 : IsRow w a1 l1 (fun i => .int .i64 (z1 i))) (m1 : (l1 : Int) ≤ 9223372036854775807) (a2 : Option Addr) (l2 c2 : Nat) (z2 : Nat → Int) (r2 : IsRow w a2 l2 (fun i => .int .i64 (z2 i))) (m2 : (l2 : Int) ≤ 9223372036854775807) :
    Calls Try.prog 3 #[.int .i64 ways, .int .u64 seed, .slice a1 l1 c1, .slice a2 l2 c2] w fun e w' => e = .returned (.bool true) ∧ Below w.heap.size w w' := by
  have HS := Lib.hid (And.intro s0 s1)
  have HR1 := Lib.hid r1; have HR2 := Lib.hid r2
  have HM := Lib.hid (And.intro m1 m2)
  have hw3 : IntKind.u64.wrap ways % 3 = 0 ∨ IntKind.u64.wrap ways % 3 = 1 ∨ IntKind.u64.wrap ways % 3 = 2 := by omega
  have hw0 : 0 ≤ IntKind.u64.wrap ways := by rw [IntKind.wrap_u64]; omega
  clear r1 r2 s0 s1
  go_enter Try.func3, Try.ntmps3
  go_upto_region 1 with fail
  go_cut [9] (fun s9 wx => ∃ nn : Nat, s9 = .int .i64 nn ∧ Ways nn ∧ Below w.heap.size w wx)
  case first =>
    have HB0 : Hid (Below w.heap.size w (w.alloc (.cells #[.int .i64 2, .int .i64 4, .int .i64 8] 3))) := (Below.refl w.heap.size w).alloc (Nat.le_refl _) _
    clear m1 m2
    rcases hw3 with h | h | h
    · go_wp2_with fail
      go_meet
      exact ⟨2, rfl, .inl rfl, HB0.out⟩
    · go_wp2_with fail
      go_meet
      exact ⟨4, rfl, .inr (.inl rfl), HB0.out⟩
    · go_wp2_with fail
      go_meet
      exact ⟨8, rfl, .inr (.inr rfl), HB0.out⟩
  case rest =>
    obtain ⟨nn, rfl, hnn, hb0⟩ := hcut
    generalize wc = w0 at *
    have HNN := Lib.hid hnn; have HB0 := Lib.hid hb0
    have hn8 : (2 : Int) ≤ nn ∧ (nn : Int) ≤ 8 := by rcases hnn with rfl | rfl | rfl <;> omega
    obtain ⟨hn2, hn8⟩ := hn8
    have HNEW : Hid (Calls Try.prog 8 #[.int .i64 1, .int .i64 nn, .int .u64 seed] w0 (NewCache w0 1 nn)) := cache_new (n := 1) (.inl rfl) hnn seed HS.out.1 HS.out.2 w0
    clear hnn hb0 hw3 hw0
    go_wp2_with fail
    refine HNEW.out.mono ?_
    rintro e w1 ⟨b, sb, wb, st, rfl, hc, hb, hg, hbe⟩
    have HC := Lib.hid hc
    have HG : Hid (∀ g, CacheOwn sb wb 1 g → w.heap.size ≤ g) := fun g hgg => Nat.le_trans HB0.out.size (hg g hgg)
    have HBE : Hid (Below w.heap.size w w1) := HB0.out.trans (hbe.mono HB0.out.size)
    clear hc hb hg hbe HNEW HB0
    go_wp2_with fail
    refine (cache_awake w1).mono ?_
    rintro e w2 ⟨rfl, hb2⟩
    have HST : Hid (FullS w b sb wb nn false (.int .u64 0) w2) := ⟨_, st, 0, rfl, by omega, by omega, HC.out.below hb2, (fun h => nomatch h), HBE.out.trans (hb2.mono HBE.out.size)⟩
    clear hb2 HC HBE
    go_wp2_with fail
    go_loopw [12, 13, 14] (fun la sm i wr => ∃ (k : Nat) (sb' : Bool), (k : Int) ≤ l1 ∧ (k : Int) ≤ 100 ∧ i = .int .i64 k ∧ sm = .bool sb' ∧ FullS w b sb wb nn sb' la wr) (fun _ _ i _ => 100 - (intOf i).toNat)
    case atStart => exact ⟨0, false, by omega, by omega, rfl, rfl, HST.out⟩
    case round =>
      clear HST
      obtain ⟨k, sm, hk, hk100, rfl, rfl, L, st, la, rfl, la0, la1, hc, hl, hbe⟩ := hrel
      have HC := Lib.hid hc; have HL := Lib.hid hl; have HBE := Lib.hid hbe
      have HLA := Lib.hid (And.intro la0 la1)
      clear hc hl hbe la0 la1
      by_cases hlt : (k : Int) < l1
      · by_cases hlt100 : (k : Int) < 100
        · clear hk hk100
          obtain ⟨bo, oo, rfl, hbl, hcell⟩ := HR1.out (by omega)
          have c0 : wr.cell? ⟨bo, oo + k, none⟩ = some (.int .i64 (z1 k)) := (HBE.out.cell (p := ⟨bo, oo + k, none⟩) hbl).trans (hcell k (by omega))
          have hA0 : 0 ≤ IntKind.u64.wrap (z1 k) := by rw [IntKind.wrap_u64]; omega
          have hA1 : IntKind.u64.wrap (z1 k) % 20 < 20 := by omega
          have hA2 : 0 ≤ IntKind.u64.wrap (z1 k) % 20 := by omega
          clear hcell hbl
          go_upto_region 11 with fail
          have HA : Hid (0 ≤ IntKind.u64.wrap (z1 k) % 20 * 64 ∧ IntKind.u64.wrap (z1 k) % 20 * 64 < 18446744073709551616) := ⟨by omega, by omega⟩
          generalize IntKind.u64.wrap (z1 k) % 20 * 64 = A at *
          clear hA0 hA1 hA2 c0
          go_cut [77] (fun s77 wx => s77 = .bool (decide ((k : Int) < l2) && ((z2 k).tmod 2 == 0) && sm) ∧ wx = wr)
          case first =>
            by_cases hk2 : (k : Int) < l2
            · obtain ⟨b2, o2, rfl, hbl2, hcell2⟩ := HR2.out (by omega)
              have c2 : wr.cell? ⟨b2, o2 + k, none⟩ = some (.int .i64 (z2 k)) := (HBE.out.cell (p := ⟨b2, o2 + k, none⟩) hbl2).trans (hcell2 k (by omega))
              clear hcell2 hbl2
              cases hp : ((z2 k).tmod 2 == 0) with
              | true =>
                have HT : Hid ((decide ((k : Int) < l2) && ((z2 k).tmod 2 == 0) && sm) = sm) := by show _ = _; rw [hp, decide_eq_true hk2]; rfl
                go_wp2_with fail
                go_meet
                exact ⟨by rw [HT.out], rfl⟩
              | false =>
                have HT : Hid ((decide ((k : Int) < l2) && ((z2 k).tmod 2 == 0) && sm) = false) := by show _ = _; rw [hp]; simp
                go_wp2_with fail
                go_meet
                exact ⟨by rw [HT.out], rfl⟩
            · have HT : Hid ((decide ((k : Int) < l2) && ((z2 k).tmod 2 == 0) && sm) = false) := by show _ = _; rw [decide_eq_false hk2]; rfl
              go_wp2_with fail
              go_meet
              exact ⟨by rw [HT.out], rfl⟩
          case rest =>
            obtain ⟨rfl, rfl⟩ := hcut
            have HTT : Hid ((decide ((k : Int) < l2) && ((z2 k).tmod 2 == 0) && sm) = true → (k : Int) < l2) := fun h => by
              simp at h
              omega
            generalize (decide ((k : Int) < l2) && ((z2 k).tmod 2 == 0) && sm) = t at *
            generalize wc = wr at *
            go_upto_if 77 with fail
            go_cut [12] (fun s12 wx => FullS w b sb wb nn sm s12 wx)
            case first =>
              cases t with
              | false =>
                have HF : Hid (FullS w b sb wb nn sm (.int .u64 la) wr) := ⟨L, st, la, rfl, HLA.out.1, HLA.out.2, HC.out, HL.out, HBE.out⟩
                go_wp2_with fail
                go_meet
                exact HF.out
              | true =>
                have hk2 : (k : Int) < l2 := HTT.out rfl
                obtain ⟨b2, o2, rfl, hbl2, hcell2⟩ := HR2.out (by omega)
                have c2 : wr.cell? ⟨b2, o2 + k, none⟩ = some (.int .i64 (z2 k)) := (HBE.out.cell (p := ⟨b2, o2 + k, none⟩) hbl2).trans (hcell2 k (by omega))
                clear hcell2 hbl2
                have hA0 : 0 ≤ IntKind.u64.wrap (z2 k) := by rw [IntKind.wrap_u64]; omega
                have hA1 : IntKind.u64.wrap (z2 k) % 20 < 20 := by omega
                have hA2 : 0 ≤ IntKind.u64.wrap (z2 k) % 20 := by omega
                have HQ : Hid (0 ≤ IntKind.u64.wrap (z2 k) % 20 * 64 ∧ IntKind.u64.wrap (z2 k) % 20 * 64 < 18446744073709551616) := ⟨by omega, by omega⟩
                generalize hqq : IntKind.u64.wrap (z2 k) % 20 * 64 = Q at *
                rcases wayI_cases nn (L (setOf 1 Q)) Q with ⟨hw, _⟩ | ⟨i, hi, hw, hli, _⟩
                · have HRD : Hid (Calls Try.prog 10 #[.pointer (some ⟨b, 0, none⟩), .int .u64 Q, .int .i64 1] wr (NoRead wr)) := read_no HC.out Q HQ.out.1 HQ.out.2 1 (by rw [hw]; omega)
                  clear hw
                  go_wp2_with fail
                  refine HRD.out.mono ?_
                  rintro e w3 ⟨rfl, hb3⟩
                  have HF : Hid (FullS w b sb wb nn sm (.int .u64 la) w3) := ⟨L, st, la, rfl, HLA.out.1, HLA.out.2, HC.out.below hb3, HL.out, HBE.out.trans (hb3.mono HBE.out.size)⟩
                  clear hb3
                  go_wp2_with fail
                  go_meet
                  exact HF.out
                · have HRD : Hid (Calls Try.prog 10 #[.pointer (some ⟨b, 0, none⟩), .int .u64 Q, .int .i64 1] wr (ReadAt wr b sb wb 1 nn L st Q 1 i)) := read_ok HC.out Q HQ.out.1 HQ.out.2 1 (.inl rfl) (by omega) i hw hi
                  have HLI := Lib.hid hli; have HIN := Lib.hid hi
                  clear hw hli hi
                  go_wp2_with fail
                  refine HRD.out.mono ?_
                  rintro e w3 ⟨rfl, hc3, ht3⟩
                  have HF : Hid (FullS w b sb wb nn sm (.int .u64 Q) w3) := by
                    rw [setOf_one] at hc3
                    have hl2 := HLI.out
                    rw [setOf_one] at hl2
                    refine ⟨_, _, Q, rfl, HQ.out.1, HQ.out.2, hc3, ?_, HBE.out.trans (ht3.below HBE.out.size HG.out)⟩
                    rw [upS_same]
                    exact LastIn.touch HNN.out (HC.out.hst 0 (by omega)) HIN.out hl2 sm
                  clear hc3 ht3
                  go_wp2_with fail
                  go_meet
                  exact HF.out
            case rest =>
              obtain ⟨L2, st2, lb, rfl, lb0, lb1, hc2, hl2, hbe2⟩ := hcut
              generalize wc = wy at *
              have HC2 := Lib.hid hc2; have HL2 := Lib.hid hl2; have HBE2 := Lib.hid hbe2; have HLB := Lib.hid (And.intro lb0 lb1)
              have hk0 : (0 : Int) ≤ (k : Int) := by omega
              clear hc2 hl2 hbe2 lb0 lb1 HC HL HBE HLA HTT
              have HLK := Lib.hid (cache_look HC2.out A HA.out.1 HA.out.2)
              rcases wayI_cases nn (L2 (setOf 1 A)) A with ⟨hw, hno⟩ | ⟨i, hi, hw, hli, _⟩
              · have HNO : Hid (wayI nn (L2 (setOf 1 A)) A = -1) := hw
                rw [hw] at HLK
                clear hw hno
                go_wp2_with fail
                refine HLK.out.mono ?_
                rintro e w3 ⟨rfl, hb3⟩
                have HC3 := Lib.hid (HC2.out.below hb3)
                have HBE3 := Lib.hid (HBE2.out.trans (hb3.mono HBE2.out.size))
                clear hb3
                go_wp2_with fail
                refine (law_line (k : Int) hk0 (by omega) w3).mono ?_
                rintro e w4 ⟨rfl, hr4, hb4⟩
                have HR4 := Lib.hid hr4
                have HC4 := Lib.hid (HC3.out.below hb4)
                have HBE4 := Lib.hid (HBE3.out.trans (hb4.mono HBE3.out.size))
                have HAP : Hid (¬ CacheOwn sb wb 1 w3.heap.size) := fun e => by have := HC3.out.lt.2 _ e; omega
                have HFI := Lib.hid (fill_ok HC4.out A HA.out.1 HA.out.2 HNO.out w3.heap.size 0 64 (lineD k) (lineD_bd k) (row_isRow HR4.out) HAP.out)
                clear hr4 hb4
                go_wp2_with fail
                refine HFI.out.mono ?_
                rintro e w5 hf
                obtain ⟨hc5, ht5, hr5⟩ := hf
                rw [setOf_one] at hc5
                have hlt5 := fillWay_lt HNN.out (L2 0) (st2 0)
                have HBE5 : Hid (Below w.heap.size w w5) := HBE4.out.trans (ht5.below HBE4.out.size HG.out)
                have HLS : Hid (sm = true → ∃ i, i < nn ∧ isLine lb (upS2 L2 0 (fillWay nn (L2 0) (st2 0)) (newL A (lineD k)) 0 i) = true) := fun h => by
                  obtain ⟨i, h1, h2, h3⟩ := HL2.out h
                  refine ⟨i, h1, ?_⟩
                  rw [upS2_same, upL_ne _ _ _ (Ne.symm (fillWay_ne (isLine_v h2) h3))]
                  exact h2
                have HAI : Hid (isLine A (upS2 L2 0 (fillWay nn (L2 0) (st2 0)) (newL A (lineD k)) 0 (fillWay nn (L2 0) (st2 0))) = true) := by
                  show isLine _ _ = true
                  rw [upS2_same, upL_same]; exact isLine_new _ _
                have HTU : Hid (LastIn nn (upS2 L2 0 (fillWay nn (L2 0) (st2 0)) (newL A (lineD k)) 0) (upS st2 0 (touched nn (st2 0) (fillWay nn (L2 0) (st2 0))) 0) A true) := by
                  show LastIn _ _ _ _ _
                  rw [upS_same]
                  exact LastIn.touch HNN.out (HC4.out.hst 0 (by omega)) hlt5 HAI.out true
                have HC5 := Lib.hid hc5
                have HI5 := Lib.hid hlt5
                clear hc5 ht5 hlt5 HFI HR4 HC4 HAP HC3 HC2 HL2
                generalize fillWay nn (L2 0) (st2 0) = fw at *
                generalize upS2 L2 0 fw (newL A (lineD k)) = L5 at *
                generalize upS st2 0 (touched nn (st2 0) fw) = st5 at *
                have hlen : ((validTo L5 nn 1).length : Int) ≤ nn := by have := validTo_len L5 nn 1; omega
                have HLN := Lib.hid (cache_len HC5.out)
                generalize (validTo L5 nn 1).length = ln at *
                have HL0 : setOf 1 lb = 0 := setOf_one lb
                have HLA0 : setOf 1 A = 0 := setOf_one A
                have HS1 : Hid (∀ W, CacheIs W b sb wb 1 nn L5 st5 → sm = true → Calls Try.prog 11 #[.pointer (some ⟨b, 0, none⟩), .int .u64 lb] W fun e w' => e = .returned (.bool true) ∧ Below W.heap.size W w') := fun W hW h => by
                  have := cache_look hW lb HLB.out.1 HLB.out.2
                  obtain ⟨i, h1, h2⟩ := HLS.out h
                  rw [setOf_one, decide_eq_true (wayI_some h1 h2)] at this
                  exact this
                have HS2 : Hid (∀ W, CacheIs W b sb wb 1 nn L5 st5 → Calls Try.prog 11 #[.pointer (some ⟨b, 0, none⟩), .int .u64 A] W fun e w' => e = .returned (.bool true) ∧ Below W.heap.size W w') := fun W hW => by
                  have := cache_look hW A HA.out.1 HA.out.2
                  rw [setOf_one, decide_eq_true (wayI_some HI5.out HAI.out)] at this
                  exact this
                clear HL0 HLA0
                have FIN : ∀ W, Below w5.heap.size w5 W → Hid (FullS w b sb wb nn true (.int .u64 A) W) := fun W hb => ⟨L5, st5, A, rfl, HA.out.1, HA.out.2, HC5.out.below hb, HTU.out, HBE5.out.trans (hb.mono HBE5.out.size)⟩
                have REST : ∀ (sm' : Bool), sm = sm' → True := fun _ _ => trivial
                rcases hr5 with ⟨_, rfl⟩ | ⟨_, g5, cp5, rfl, _⟩
                all_goals
                  go_wp2_with fail
                  refine HLN.out.mono ?_
                  rintro e w6 ⟨rfl, hb6⟩
                  have HB6 := Lib.hid hb6
                  clear hb6
                  cases sm
                  · go_wp2_with fail
                    refine (HS2.out w6 (HC5.out.below HB6.out)).mono ?_
                    rintro e w7 ⟨rfl, hb7⟩
                    have HZ := FIN w7 (HB6.out.trans (hb7.mono HB6.out.size))
                    clear hb7
                    go_wp2_with fail
                    exact ⟨⟨k + 1, true, by omega, by omega, by rw [Int.natCast_succ], rfl, HZ.out⟩, by simp [intOf]; omega⟩
                  · go_wp2_with fail
                    refine (HS1.out w6 (HC5.out.below HB6.out) (by first | rfl | trivial)).mono ?_
                    rintro e w7 ⟨rfl, hb7⟩
                    have HB7 := Lib.hid (HB6.out.trans (hb7.mono HB6.out.size))
                    clear hb7
                    go_wp2_with fail
                    refine (HS2.out w7 (HC5.out.below HB7.out)).mono ?_
                    rintro e w8 ⟨rfl, hb8⟩
                    have HZ := FIN w8 (HB7.out.trans (hb8.mono HB7.out.size))
                    clear hb8
                    go_wp2_with fail
                    exact ⟨⟨k + 1, true, by omega, by omega, by rw [Int.natCast_succ], rfl, HZ.out⟩, by simp [intOf]; omega⟩
              · have HWR := Lib.hid (fun (W : World) (hW : CacheIs W b sb wb 1 nn L2 st2) => write_ok hW A HA.out.1 HA.out.2 1 (.inl rfl) (by omega) i hw hi k)
                have hdec : decide (0 ≤ wayI nn (L2 (setOf 1 A)) A) = true := by rw [hw]; simp
                rw [hdec] at HLK
                have HIN := Lib.hid hi; have HLI := Lib.hid hli
                clear hw hdec hi hli
                go_wp2_with fail
                refine HLK.out.mono ?_
                rintro e w3 ⟨rfl, hb3⟩
                have HC3 := Lib.hid (HC2.out.below hb3)
                have HBE3 := Lib.hid (HBE2.out.trans (hb3.mono HBE2.out.size))
                clear hb3
                go_wp2_with fail
                refine (HWR.out w3 HC3.out).mono ?_
                rintro e w4 ⟨rfl, hc4, ht4⟩
                have HZ : Hid (FullS w b sb wb nn sm (.int .u64 A) w4) := by
                  rw [setOf_one] at hc4
                  have hl2 := HLI.out
                  rw [setOf_one] at hl2
                  refine ⟨_, _, A, rfl, HA.out.1, HA.out.2, hc4, ?_, HBE3.out.trans (ht4.below HBE3.out.size HG.out)⟩
                  rw [upS_same]
                  refine LastIn.touch HNN.out (HC3.out.hst 0 (by omega)) HIN.out ?_ sm
                  rw [upS2_same, upL_same, isLine_put]
                  exact hl2
                clear hc4 ht4
                go_wp2_with fail
                exact ⟨⟨k + 1, sm, by omega, by omega, by rw [Int.natCast_succ], rfl, HZ.out⟩, by simp [intOf]; omega⟩
        · clear hk
          obtain rfl : k = 100 := by omega
          go_wp2_with fail
          go_ret
          exact ⟨rfl, HBE.out⟩
      · clear hk
        by_cases hlt100 : (k : Int) < 100
        · go_wp2_with fail
          go_ret
          exact ⟨rfl, HBE.out⟩
        · go_wp2_with fail
          go_ret
          exact ⟨rfl, HBE.out⟩
theorem cache_full_walk (w : World) (a0 : Int) (w0 : (Lit.int .i64 a0).wf = true) (a1 : Int) (w1 : (Lit.int .u64 a1).wf = true) (b2 : Option Addr) (l2 c2 : Nat) (z2 : Nat → Int) (h2 : ∀ i, (Lit.int .i64 (z2 i)).wf = true) (r2 : ArgRow w b2 l2 c2 (fun i => .int .i64 (z2 i))) (m2 : c2 * 8 ≤ 140737488351232) (b3 : Option Addr) (l3 c3 : Nat) (z3 : Nat → Int) (h3 : ∀ i, (Lit.int .i64 (z3 i)).wf = true) (r3 : ArgRow w b3 l3 c3 (fun i => .int .i64 (z3 i))) (m3 : c3 * 8 ≤ 140737488351232) :
    Calls Try.prog 3 #[.int .i64 a0, .int .u64 a1, .slice b2 l2 c2, .slice b3 l3 c3] w fun e w' => e = .returned (.bool true) ∧ Below w.heap.size w w' := by
  have q := wf_u64' w1
  exact full_walk w a0 a1 q.1 (by omega) b2 l2 c2 z2 (r2.row.le r2.le) (by have := r2.le; omega) b3 l3 c3 z3 (r3.row.le r3.le) (by have := r3.le; omega)
end Go.Proofs.Ytlcedcjcecahoaa
