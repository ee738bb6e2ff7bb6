/- RamStrobe: the walk. No condition. -/
import Derived.Test.YtebdbbpefmgooaaRamNilW
import Derived.Test.YtebdbbpefmgooaaSame
import Derived.Test.YtebdbbpefmgooaaArgsB
import Derived.StillTailTactics
import Derived.BigRegion
import Derived.Deep.RegionWith
import Derived.Deep.RegionHeld3
import Derived.Deep.QuietTactic
import Derived.BigQuiet
import Derived.Deep.LoopGhost
import Derived.Deep.DeepCutAuto
import Derived.Deep.DeepFit
import Derived.Deep.DeepMust
import Derived.Handy
set_option linter.unusedVariables false
set_option linter.unusedSimpArgs false
namespace Go.Proofs.Ytebdbbpefmgooaa
open Go.RowKit
theorem Turned.of_grown' {a b : World} {row : Option Nat} (h : a.grownBy b row) : Turned (fun g => row = some g) a b := ⟨h.os, h.tape, h.output, h.size, fun k hk hn => h.block k hk (fun e => hn e.symm)⟩
/-- what is wanted behind k rounds -/
def wantTo (l1 l2 : List Int) (st : Nat → Bool) : Nat → List Int
  | 0 => l1
  | k + 1 => if st k then (wantTo l1 l2 st k).set k (l2.getD k 0) else wantTo l1 l2 st k
theorem wantTo_len (l1 l2 : List Int) (st : Nat → Bool) : ∀ k, (wantTo l1 l2 st k).length = l1.length
  | 0 => rfl
  | k + 1 => by unfold wantTo; split <;> simp [wantTo_len l1 l2 st k]
theorem wantTo_at (l1 l2 : List Int) (st : Nat → Bool) (i : Nat) (hi : i < l1.length) : ∀ k, (wantTo l1 l2 st k)[i]? = some (if i < k ∧ st i = true then l2.getD i 0 else l1.getD i 0)
  | 0 => by simp [wantTo, List.getD, hi]
  | k + 1 => by
    unfold wantTo
    have ih := wantTo_at l1 l2 st i hi k
    by_cases hs : st k = true
    · rw [if_pos hs, List.getElem?_set]
      by_cases hk : k = i
      · subst hk
        rw [if_pos rfl, if_pos (by rw [wantTo_len]; exact hi), if_pos ⟨by omega, hs⟩]
      · rw [if_neg hk, ih]
        have : (i < k ∧ st i = true) ↔ (i < k + 1 ∧ st i = true) := ⟨fun h => ⟨by omega, h.2⟩, fun h => ⟨by omega, h.2⟩⟩
        simp only [this]
    · rw [if_neg hs, ih]
      by_cases hk : k = i
      · subst hk
        rw [if_neg (by omega), if_neg (fun h => hs h.2)]
      · have : (i < k ∧ st i = true) ↔ (i < k + 1 ∧ st i = true) := ⟨fun h => ⟨by omega, h.2⟩, fun h => ⟨by omega, h.2⟩⟩
        simp only [this]
theorem wantTo_is (l1 l2 : List Int) (st : Nat → Bool) (n m : Nat) (off : Nat) (h1 : l1.length = n) (hm : ∀ i, i < n → st i = true → i < m) (b1 : ∀ x ∈ l1, 0 ≤ x ∧ x ≤ 255) (b2 : ∀ i, 0 ≤ l2.getD i 0) :
    wantTo l1 l2 st m = bytesAt (putTo (putTo (fun _ => 0) off (fun i => (l1.getD i 0).toNat) (fun _ => true) n) off (fun i => (l2.getD i 0).toNat) st n) off n := by
  apply List.ext_getElem?
  intro i
  by_cases hi : i < n
  · rw [wantTo_at _ _ _ _ (by omega), bytesAt, List.getElem?_map, List.getElem?_eq_getElem (by simpa using hi)]
    simp only [List.getElem_range, Option.map_some]
    rw [putTo_at, putTo_at, Nat.add_sub_cancel_left]
    by_cases hs : st i = true
    · rw [if_pos ⟨hm i hi hs, hs⟩, if_pos ⟨by omega, by omega, hs⟩, Int.toNat_of_nonneg (b2 i)]
    · rw [if_neg (fun h => hs h.2), if_neg (fun h => hs h.2.2), if_pos ⟨by omega, by omega, rfl⟩]
      have := b1 (l1.getD i 0) (by simp [List.getD, h1, hi])
      rw [Int.toNat_of_nonneg this.1]
  · rw [List.getElem?_eq_none (by rw [wantTo_len]; omega), List.getElem?_eq_none (by rw [bytesAt_len]; omega)]
theorem row_apart {w : World} {base : Nat} {e : TypeId} {a : Option Addr} {n c : Nat} {xs : List Value} (h : w.ownsRow base e 1 (.slice a n c) n xs) {S : Nat → Prop} (hS : ∀ g, S g → g < base) : Apart S a := by
  rintro b' o s rfl hb
  have h1 := hS b' hb
  rcases h.2 with ⟨h, _⟩ | ⟨g, cap, cur, h, hg, _⟩
  · cases h
  · injection h with h
    injection h with h
    injection h with h
    omega
set_option maxRecDepth 100000 in
set_option maxHeartbeats 8000000 in
theorem ram_strobe (w : World) (a0 : Int) (h0 : 0 ≤ a0) (a1 a2 a3 : Option Addr) (len1 cap1 len2 cap2 len3 cap3 n : Nat) (hn1 : n ≤ len1) (hn2 : n ≤ len2) (hn100 : (n : Int) ≤ 100) (hmin : (n : Int) = len1 ∨ (n : Int) = len2 ∨ (n : Int) = 100)
    (hl1 : (len1 : Int) ≤ 9223372036854775807) (hl2 : (len2 : Int) ≤ 9223372036854775807) (hl3 : (len3 : Int) ≤ 9223372036854775807) (hc1 : len1 ≤ cap1) (hc2 : len2 ≤ cap2)
    (l1 l2 : List Int) (z3 : Nat → Bool) (i1 : IsB w a1 n l1) (i2 : IsB w a2 n l2) (r3 : IsRow w a3 len3 (fun i => .bool (z3 i))) (p1 : ∀ S : Nat → Prop, (∀ g, S g → w.heap.size ≤ g) → Apart S a1) (p2 : ∀ S : Nat → Prop, (∀ g, S g → w.heap.size ≤ g) → Apart S a2) (p3 : ∀ S : Nat → Prop, (∀ g, S g → w.heap.size ≤ g) → Apart S a3) :
    Calls Try.prog 12 #[.int .u64 a0, .slice a1 len1 cap1, .slice a2 len2 cap2, .slice a3 len3 cap3] w fun e w' => e = .returned (.bool true) ∧ Below w.heap.size w w' := by
  obtain ⟨q, hq⟩ := Int.eq_ofNat_of_zero_le (show 0 ≤ a0 % 16000 by omega)
  have hq2 : (q : Int) < 16000 := by omega
  have I1 := Lib.hid i1; have I2 := Lib.hid i2; have R3 := Lib.hid r3; have P1 := Lib.hid p1; have P2 := Lib.hid p2; have P3 := Lib.hid p3
  clear i1 i2 r3 p1 p2 p3
  generalize hX : (2147483648 : Int) + (q : Int) = X
  have x0 : 2147483648 ≤ X := by omega
  have x1 : X < 2147499648 := by omega
  have HO := Lib.hid (show (X - 2147483648).toNat = q by omega)
  have HM := Lib.hid (show ramAll 4 X n = true by
    simp only [ramAll, isRam, Bool.or_eq_true, Bool.and_eq_true, decide_eq_true_eq]
    omega)
  have hin1 : (n : Int) ≤ len1 := by omega
  have hin2 : (n : Int) ≤ len2 := by omega
  have hic1 : (n : Int) ≤ cap1 := by omega
  have hic2 : (n : Int) ≤ cap2 := by omega
  clear hn1 hn2 hc1 hc2
  go_enter Try.func12, Try.ntmps12
  go_wp2_with fail
  refine (ram_new 4 (by omega) (by omega) w).mono ?_
  rintro e w1 ⟨b, S, rfl, hat, hS, hb, hw⟩
  have H := Lib.hid hat
  have HW := Lib.hid hw
  have HS := Lib.hid hS
  clear hat hw hS hb
  go_upto_region 2 with fail
  go_cut [11] (fun s11 wx => s11 = .int .i64 (n : Int) ∧ wx = w1)
  case first =>
    go_wp2_with fail
    all_goals (go_meet; refine ⟨?_, rfl⟩; exact congrArg (Value.int .i64) (by omega))
  case rest =>
    obtain ⟨rfl, rfl⟩ := hcut
    clear hmin
    go_wp2_with fail
    refine (ram_awake _).mono ?_
    rintro e w2 ⟨rfl, hb⟩
    have H2 := Lib.hid (H.out.below hb)
    have HW2 : Hid (Below w.heap.size w w2) := below_then HW.out hb HW.out.size
    have J1 := Lib.hid (isB_turned I1.out (Turned.of_below HW2.out (fun _ => False)) (fun _ _ _ _ e => e))
    clear hb HW H
    go_wp2_with fail
    refine (ram_write_ok H2.out X (by omega) (by omega) a1 n _ HM.out l1 J1.out (P1.out S HS.out)).mono ?_
    rintro e w3 ⟨rfl, hto⟩
    rw [HO.out] at hto
    obtain ⟨S3, hat3, ht3, hs3⟩ := hto
    have HS3 : Hid (∀ g, S3 g → w.heap.size ≤ g) := fun g hg => by
      rcases hs3 g hg with h | h
      · exact HS.out g h
      · have := HW2.out.size; omega
    have HW3 : Hid (Below w.heap.size w w3) := HW2.out.trans (ht3.below HW2.out.size HS.out)
    have H3 := Lib.hid hat3
    have J2 := Lib.hid (isB_turned I2.out (Turned.of_below HW3.out (fun _ => False)) (fun _ _ _ _ e => e))
    have J3 := Lib.hid (isRow_turned R3.out (Turned.of_below HW3.out (fun _ => False)) (fun _ _ _ _ e => e))
    clear ht3 hs3 hat3 H2 HS HW2 J1
    go_wp2_with fail
    refine (ram_some_ok H3.out X (by omega) (by omega) a2 a3 n _ len3 cap3 HM.out l2 J2.out (P2.out S3 HS3.out) z3 J3.out (P3.out S3 HS3.out) (by omega)).mono ?_
    rintro e w4 ⟨rfl, hto⟩
    rw [HO.out] at hto
    obtain ⟨S4, hat4, ht4, hs4⟩ := hto
    have HS4 : Hid (∀ g, S4 g → w.heap.size ≤ g) := fun g hg => by
      rcases hs4 g hg with h | h
      · exact HS3.out g h
      · have := HW3.out.size; omega
    have HW4 : Hid (Below w.heap.size w w4) := HW3.out.trans (ht4.below HW3.out.size HS3.out)
    have H4 := Lib.hid hat4
    have K1 := Lib.hid (isB_turned I1.out (Turned.of_below HW4.out (fun _ => False)) (fun _ _ _ _ e => e))
    clear ht4 hs4 hat4 H3 HS3 HW3 J2 J3
    go_wp2_with fail
    refine (copy_bytes a1 n _ l1 _ K1.out (by omega)).mono ?_
    rintro e w5 ⟨v, rfl, hown, hb⟩
    have H5 := Lib.hid (H4.out.below hb)
    have HW5 : Hid (Below w.heap.size w w5) := below_then HW4.out hb HW4.out.size
    have HV := Lib.hid hown
    have HLT := Lib.hid (fun g (hg : S4 g) => H4.out.lt hg)
    have HLB : Hid (b < w4.heap.size) := H4.out.self.2
    have HSZ := Lib.hid HW4.out.size
    have HCC := Lib.hid (show ∀ wr, w5.grownBy wr v.ownBlock → Below w.heap.size w wr from fun wr hg => HW5.out.grown hg HW5.out.size (fun g hg => Nat.le_trans HW4.out.size (hown.lt g hg).1))
    clear hb hown H4 HW4 K1
    go_wp2_with fail
    go_loopw [13] (fun i wr => ∃ k : Nat, (k : Int) ≤ n ∧ (k : Int) ≤ len3 ∧ i = .int .i64 k ∧ wr.ownsRow w4.heap.size 5 1 v n ((wantTo l1 l2 (stAt len3 z3) k).map (Value.int .u8)) ∧ w5.grownBy wr v.ownBlock) (fun i _ => n - (intOf i).toNat)
    case atStart => exact ⟨0, by omega, by omega, rfl, HV.out, World.grownBy.refl _ _⟩
    case round =>
      obtain ⟨k, hk, hk3, rfl, hown, hg⟩ := hrel
      have HO2 := Lib.hid hown
      have HG := Lib.hid hg
      have HB := Lib.hid (HCC.out wr hg)
      clear hown hg
      have HSTEP := Lib.hid (show wantTo l1 l2 (stAt len3 z3) (k + 1) = if stAt len3 z3 k then (wantTo l1 l2 (stAt len3 z3) k).set k (l2.getD k 0) else wantTo l1 l2 (stAt len3 z3) k from rfl)
      by_cases hlt : (k : Int) < n
      · by_cases hlt3 : (k : Int) < len3
        · clear hk hk3
          have hst : stAt len3 z3 k = z3 k := by unfold stAt; simp; omega
          rw [hst] at HSTEP
          clear hst
          obtain ⟨b3, o3, rfl, lt3, c3⟩ := R3.out (by omega)
          have c3' : wr.cell? ⟨b3, o3 + k, none⟩ = some (.bool (z3 k)) := (HB.out.cell (p := ⟨b3, o3 + k, none⟩) lt3).trans (c3 k (by omega))
          obtain ⟨b2, o2, rfl, c2⟩ : ∃ b2 o2, a2 = some ⟨b2, o2, none⟩ ∧ wr.cell? ⟨b2, o2 + k, none⟩ = some (.int .u8 (l2.getD k 0)) := by
            rcases (isB_turned I2.out (Turned.of_below HB.out (fun _ => False)) (fun _ _ _ _ e => e)).cell with ⟨_, h0⟩ | ⟨b2, o2, h, hc⟩
            · omega
            · exact ⟨b2, o2, h, hc k (by omega)⟩
          obtain ⟨g, cap, rfl, hgb⟩ : ∃ g cap, v = .slice (some ⟨g, 0, none⟩) n cap ∧ w4.heap.size ≤ g := by
            rcases HO2.out.2 with ⟨_, h0⟩ | ⟨g, cap, cur, h1, h2, _⟩
            · omega
            · exact ⟨g, cap, h1, h2⟩
          have cw : wr.cell? ⟨g, k, none⟩ = some (.int .u8 ((wantTo l1 l2 (stAt len3 z3) k).getD k 0)) := by
            rw [HO2.out.cellAt k (by omega), List.getElem?_map, List.getD]
            have hl := HO2.out.1
            simp only [List.length_map, Nat.mul_one] at hl
            rw [List.getElem?_eq_getElem (by omega)]
            rfl
          have fw := HO2.out.frozenAt k
          have HS2 := Lib.hid (HO2.out.stored k (.int .u8 (l2.getD k 0)))
          clear c3 lt3
          cases hz : z3 k with
          | false =>
            rw [hz] at c3' HSTEP
            rw [if_neg (by simp)] at HSTEP
            clear hz cw fw
            go_wp2_with fail
            exact ⟨⟨k + 1, by omega, by omega, by rw [Int.natCast_succ], by rw [HSTEP.out]; exact HO2.out, HG.out⟩, by simp [intOf]; omega⟩
          | true =>
            rw [hz] at c3' HSTEP
            rw [if_pos rfl] at HSTEP
            clear hz
            go_wp2_with fail
            exact ⟨⟨k + 1, by omega, by omega, by rw [Int.natCast_succ], by rw [HSTEP.out, List.map_set]; exact HS2.out.1, grown_trans HG.out HS2.out.2⟩, by simp [intOf]; omega⟩
        · have HEQ := Lib.hid (wantTo_is l1 l2 (stAt len3 z3) n k q I1.out.hlen (fun i hi hs => by have h1 : i < len3 := by { unfold stAt at hs; simp at hs; exact hs.1 }; omega) I1.out.bd (fun i => by
            by_cases hi : i < l2.length
            · exact (I2.out.bd (l2.getD i 0) (by simp [List.getD, hi])).1
            · simp [List.getD, hi]))
          have HRT := Lib.hid (H5.out.turned (Turned.of_grown' HG.out) (fun e => by have := (HV.out.lt b e).1; have := HLB.out; omega) (fun g hg e => by have := (HV.out.lt g e).1; have := HLT.out g hg; omega))
          clear hk hk3 HSTEP
          go_wp2_with fail
          refine (ram_read_ok HRT.out X (by omega) (by omega) n HM.out).mono ?_
          rintro e w6 ⟨vv, rfl, hown6, hb⟩
          rw [HO.out] at hown6
          obtain ⟨a6, c6, rfl, hib6⟩ := bytes_own hown6 (bytesAt_bd HRT.out.bd _ _)
          have hbw : ∀ x ∈ wantTo l1 l2 (stAt len3 z3) k, 0 ≤ x ∧ x ≤ 255 := by
            rw [HEQ.out]
            exact bytesAt_bd HRT.out.bd _ _
          obtain ⟨av, cv, rfl, hibv⟩ := bytes_own HO2.out hbw
          have HB6 : Hid (Below w.heap.size w w6) := below_then HB.out hb HB.out.size
          have I6 := Lib.hid hib6
          have IV := Lib.hid (isB_turned hibv (Turned.of_below hb (fun _ => False)) (fun _ _ _ _ e => e))
          clear hb hown6 hib6 hbw hibv
          go_wp2_with fail
          refine (same_bytes a6 av n n c6 cv _ _ _ I6.out IV.out).mono ?_
          rintro e w7 ⟨rfl, rfl⟩
          rw [HEQ.out, show eqB (bytesAt (putTo (putTo (fun _ => 0) q (fun i => (l1.getD i 0).toNat) (fun _ => true) n) q (fun i => (l2.getD i 0).toNat) (stAt len3 z3) n) q n) (bytesAt (putTo (putTo (fun _ => 0) q (fun i => (l1.getD i 0).toNat) (fun _ => true) n) q (fun i => (l2.getD i 0).toNat) (stAt len3 z3) n) q n) = true by simp [eqB]]
          go_wp2_with fail
          go_ret
          exact ⟨rfl, HB6.out⟩
      · have HEQ := Lib.hid (wantTo_is l1 l2 (stAt len3 z3) n k q I1.out.hlen (fun i hi hs => by have h1 : i < len3 := by { unfold stAt at hs; simp at hs; exact hs.1 }; omega) I1.out.bd (fun i => by
          by_cases hi : i < l2.length
          · exact (I2.out.bd (l2.getD i 0) (by simp [List.getD, hi])).1
          · simp [List.getD, hi]))
        have HRT := Lib.hid (H5.out.turned (Turned.of_grown' HG.out) (fun e => by have := (HV.out.lt b e).1; have := HLB.out; omega) (fun g hg e => by have := (HV.out.lt g e).1; have := HLT.out g hg; omega))
        clear hk hk3 HSTEP
        go_wp2_with fail
        refine (ram_read_ok HRT.out X (by omega) (by omega) n HM.out).mono ?_
        rintro e w6 ⟨vv, rfl, hown6, hb⟩
        rw [HO.out] at hown6
        obtain ⟨a6, c6, rfl, hib6⟩ := bytes_own hown6 (bytesAt_bd HRT.out.bd _ _)
        have hbw : ∀ x ∈ wantTo l1 l2 (stAt len3 z3) k, 0 ≤ x ∧ x ≤ 255 := by
          rw [HEQ.out]
          exact bytesAt_bd HRT.out.bd _ _
        obtain ⟨av, cv, rfl, hibv⟩ := bytes_own HO2.out hbw
        have HB6 : Hid (Below w.heap.size w w6) := below_then HB.out hb HB.out.size
        have I6 := Lib.hid hib6
        have IV := Lib.hid (isB_turned hibv (Turned.of_below hb (fun _ => False)) (fun _ _ _ _ e => e))
        clear hb hown6 hib6 hbw hibv
        go_wp2_with fail
        refine (same_bytes a6 av n n c6 cv _ _ _ I6.out IV.out).mono ?_
        rintro e w7 ⟨rfl, rfl⟩
        rw [HEQ.out, show eqB (bytesAt (putTo (putTo (fun _ => 0) q (fun i => (l1.getD i 0).toNat) (fun _ => true) n) q (fun i => (l2.getD i 0).toNat) (stAt len3 z3) n) q n) (bytesAt (putTo (putTo (fun _ => 0) q (fun i => (l1.getD i 0).toNat) (fun _ => true) n) q (fun i => (l2.getD i 0).toNat) (stAt len3 z3) n) q n) = true by simp [eqB]]
        go_wp2_with fail
        go_ret
        exact ⟨rfl, HB6.out⟩
theorem ram_strobe_walk (w : World) (a0 : Int) (w0 : (Lit.int .u64 a0).wf = true)
    (a1 : Option Addr) (len1 cap1 : Nat) (z1 : Nat → Int) (b1 : ∀ i, (Lit.int .u8 (z1 i)).wf = true) (w1 : ArgRow w a1 len1 cap1 (fun i => .int .u8 (z1 i))) (m1 : cap1 * 1 ≤ 140737488351232)
    (a2 : Option Addr) (len2 cap2 : Nat) (z2 : Nat → Int) (b2 : ∀ i, (Lit.int .u8 (z2 i)).wf = true) (w2 : ArgRow w a2 len2 cap2 (fun i => .int .u8 (z2 i))) (m2 : cap2 * 1 ≤ 140737488351232)
    (a3 : Option Addr) (len3 cap3 : Nat) (z3 : Nat → Bool) (w3 : ArgRow w a3 len3 cap3 (fun i => .bool (z3 i))) (m3 : cap3 * 1 ≤ 140737488351232) :
    Calls Try.prog 12 #[.int .u64 a0, .slice a1 len1 cap1, .slice a2 len2 cap2, .slice a3 len3 cap3] w fun e w' => e = .returned (.bool true) ∧ Below w.heap.size w w' := by
  have e1 := w1.le; have e2 := w2.le; have e3 := w3.le
  exact ram_strobe w a0 (wf_u64' w0).1 a1 a2 a3 len1 cap1 len2 cap2 len3 cap3 (min (min len1 len2) 100) (by omega) (by omega) (by omega) (by omega) (by omega) (by omega) (by omega) e1 e2 _ _ z3 (argB w1 b1 (by omega)) (argB w2 b2 (by omega)) (w3.row.le e3) (fun S h => w1.apart h) (fun S h => w2.apart h) (fun S h => w3.apart h)
end Go.Proofs.Ytebdbbpefmgooaa
