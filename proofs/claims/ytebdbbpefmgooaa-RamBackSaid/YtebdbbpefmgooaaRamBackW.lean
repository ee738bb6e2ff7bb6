/- RamBack: the walk. No condition. -/
import Derived.Test.YtebdbbpefmgooaaRamNilW
import Derived.Test.YtebdbbpefmgooaaRom
import Derived.Test.YtebdbbpefmgooaaArgsB
import Derived.StillTailTactics
import Derived.BigRegion
import Derived.Deep.RegionWith
import Derived.Deep.RegionHeld3
import Derived.Deep.QuietTactic
import Derived.BigQuiet
import Derived.Deep.LoopGhost
import Derived.Deep.DeepCutAuto
import Derived.Deep.DeepFit
import Derived.Deep.DeepMust
import Derived.Handy
set_option linter.unusedVariables false
set_option linter.unusedSimpArgs false
namespace Go.Proofs.Ytebdbbpefmgooaa
open Go.RowKit
set_option maxRecDepth 100000 in
set_option maxHeartbeats 2000000 in
theorem law_read {w : World} {b n : Nat} {ct : Nat → Nat} {S : Nat → Prop} (h : RamAt w b n ct S) (x : Int) (x0 : 0 ≤ x) (x1 : x < 18446744073709551616) (ha : ramAll n x 1 = true) :
    Calls Try.prog 45 #[.pointer (some ⟨b, 0, none⟩), .int .u64 x] w fun e w' => ∃ v, e = .returned v ∧ w'.ownsRow w.heap.size 5 1 v 1 ((bytesAt ct (x - 2147483648).toNat 1).map (Value.int .u8)) ∧ Below w.heap.size w w' := by
  have H := Lib.hid (ram_read_ok h x x0 x1 1 ha)
  clear h x0 x1 ha
  go_enter Try.func45, Try.ntmps45
  go_wp2_with fail
  refine H.out.mono ?_
  rintro e w1 ⟨v, rfl, hown, hb⟩
  have HO := Lib.hid hown
  have HB := Lib.hid hb
  clear hown hb
  go_wp2_with fail
  go_ret
  exact ⟨v, rfl, HO.out, HB.out⟩
theorem mayErr_val (n : Nat) (x k : Int) : mayErr n x k = 0 ∨ mayErr n x k = 1 ∨ (mayErr n x k = 5 ∧ x % k ≠ 0 ∧ (k = 1 ∨ k = 2 ∨ k = 4 ∨ k = 8)) ∨ (mayErr n x k = 6 ∧ x % k = 0 ∧ (k = 1 ∨ k = 2 ∨ k = 4 ∨ k = 8) ∧ ramAll n x k = false) := by
  unfold mayErr
  split
  · rename_i hk
    split
    · rename_i hx
      split
      · exact .inl rfl
      · rename_i h
        exact .inr (.inr (.inr ⟨rfl, hx, hk, by simpa using h⟩))
    · rename_i hx
      exact .inr (.inr (.inl ⟨rfl, hx, hk⟩))
  · exact .inr (.inl rfl)
/-- the word is put back as it was: nothing has changed -/
theorem putWord_wordAt (ct : Nat → Nat) (h : ∀ i, ct i < 256) (off k i : Nat) : putWord ct off k (wordAt ct off k) i = ct i := by
  unfold putWord
  split
  · rename_i hi
    have key : ∀ (f : Nat → Nat) (hf : ∀ i, f i < 256) (k j : Nat), j < k → wordN f k / 2 ^ (8 * j) % 256 = f j := by
      intro f hf k
      induction k with
      | zero => intro j hj; omega
      | succ k ih =>
        intro j hj
        unfold wordN
        have hlt := wordN_lt hf k
        by_cases hjk : j = k
        · subst hjk
          rw [Nat.add_mul_div_right _ _ (Nat.pow_pos (by omega)), Nat.div_eq_of_lt hlt, Nat.zero_add, Nat.mod_eq_of_lt (hf j)]
        · have hjk : j < k := by omega
          have e : 2 ^ (8 * k) = 2 ^ (8 * (k - j - 1)) * 256 * 2 ^ (8 * j) := by
            rw [show (256 : Nat) = 2 ^ 8 from rfl, ← Nat.pow_add, ← Nat.pow_add]
            congr 1
            omega
          rw [e, ← Nat.mul_assoc, Nat.add_mul_div_right _ _ (Nat.pow_pos (by omega)), ← Nat.mul_assoc, Nat.add_mul_mod_self_right]
          exact ih j hjk
    have := key (fun i => ct (off + i)) (fun i => h _) k (i - off) (by omega)
    unfold wordAt
    rw [this]
    congr 1
    omega
  · rfl
theorem own_apart {w : World} {base : Nat} {e : TypeId} {a : Option Addr} {n c : Nat} {xs : List Value} (h : w.ownsRow base e 1 (.slice a n c) n xs) {S : Nat → Prop} (hS : ∀ g, S g → g < base) : Apart S a := by
  rintro b' o s rfl hb
  have h1 := hS b' hb
  rcases h.2 with ⟨h, _⟩ | ⟨g, cap, cur, h, hg, _⟩
  · cases h
  · injection h with h
    injection h with h
    injection h with h
    omega
theorem isB_same {w w' : World} {a : Option Addr} {n : Nat} {l : List Int} (h : IsB w a n l) (hb : Below w.heap.size w w') : IsB w' a n l := isB_turned h (Turned.of_below hb (fun _ => False)) (fun _ _ _ _ e => e)
theorem listOf_bytes (l : List Int) (m off : Nat) (ct : Nat → Nat) (hl : l.length = m) (hb : ∀ x ∈ l, 0 ≤ x ∧ x ≤ 255) : bytesAt (putTo ct off (fun i => (l.getD i 0).toNat) (fun _ => true) m) off m = l := by
  apply List.ext_getElem?
  intro i
  by_cases hi : i < m
  · rw [bytesAt, List.getElem?_map, List.getElem?_eq_getElem (by simpa using hi), List.getElem?_eq_getElem (by omega)]
    simp only [List.getElem_range, Option.map_some]
    rw [putTo_at, if_pos ⟨by omega, by omega, rfl⟩, Nat.add_sub_cancel_left]
    have := hb (l.getD i 0) (by simp [List.getD, hl, hi])
    rw [Int.toNat_of_nonneg this.1]
    simp [List.getD, hl, hi]
  · rw [List.getElem?_eq_none (by rw [bytesAt_len]; omega), List.getElem?_eq_none (by omega)]
theorem bytesAt1 (ct ct' : Nat → Nat) (o : Nat) (h : ct o = ct' o) : bytesAt ct o 1 = bytesAt ct' o 1 := by simp [bytesAt, h]
set_option maxRecDepth 100000 in
set_option maxHeartbeats 8000000 in
theorem ram_back (w : World) (a0 a2 k : Int) (h0 : 0 ≤ a0) (h2 : 0 ≤ a2) (a1 : Option Addr) (m cap1 : Nat) (hm : (m : Int) ≤ 9223372036854775807) (hmc : m ≤ cap1) (l : List Int) (i1 : IsB w a1 m l) (p1 : ∀ S : Nat → Prop, (∀ g, S g → w.heap.size ≤ g) → Apart S a1) :
    Calls Try.prog 10 #[.int .u64 a0, .slice a1 m cap1, .int .u64 a2, .int .i64 k] w fun e w' => e = .returned (.bool true) ∧ Below w.heap.size w w' := by
  have I1 := Lib.hid i1; have P1 := Lib.hid p1
  clear i1 p1
  by_cases hm2 : (m : Int) ≤ 2000
  · obtain ⟨q, hq⟩ := Int.eq_ofNat_of_zero_le (show 0 ≤ a0 % 30768 by omega)
    have hq2 : (q : Int) < 30768 := by omega
    obtain ⟨p, hp⟩ := Int.eq_ofNat_of_zero_le (show 0 ≤ a2 % 32768 by omega)
    have hp2 : (p : Int) < 32768 := by omega
    generalize hX : (2147483648 : Int) + (q : Int) = X
    generalize hY : (2147483648 : Int) + (p : Int) = Y
    have x0 : 2147483648 ≤ X := by omega
    have x1 : X < 2147514416 := by omega
    have y0 : 2147483648 ≤ Y := by omega
    have y1 : Y < 2147516416 := by omega
    have HX := Lib.hid (show (X - 2147483648).toNat = q by omega)
    have HY := Lib.hid (show (Y - 2147483648).toNat = p by omega)
    have HM := Lib.hid (show ramAll 8 X m = true ∧ ramAll 8 Y 1 = true from by
      constructor
      · simp only [ramAll, isRam, Bool.or_eq_true, Bool.and_eq_true, decide_eq_true_eq]; omega
      · simp only [ramAll, isRam, Bool.or_eq_true, Bool.and_eq_true, decide_eq_true_eq]; omega)
    have HL := Lib.hid (listOf_bytes l m q (fun _ => 0) I1.out.hlen I1.out.bd)
    have HCT := Lib.hid (putTo_at (fun _ => 0) q (fun i => (l.getD i 0).toNat) (fun _ => true) p m)
    have HM2 := Lib.hid hm2
    have HQ2 := Lib.hid hq2
    have HP2 := Lib.hid hp2
    clear hq2 hp2
    have hgt : decide ((2000 : Int) < (m : Int)) = false := decide_eq_false (by omega)
    clear hm2
    go_enter Try.func10, Try.ntmps10
    go_wp2_with fail
    refine (ram_new 8 (by omega) (by omega) w).mono ?_
    rintro e w1 ⟨b, S, rfl, hat, hS, hb, hw⟩
    have H := Lib.hid hat
    have HW := Lib.hid hw
    have HS := Lib.hid hS
    clear hat hw hS hb
    go_wp2_with fail
    refine (ram_awake _).mono ?_
    rintro e w2 ⟨rfl, hb⟩
    have H2 := Lib.hid (H.out.below hb)
    have HW2 : Hid (Below w.heap.size w w2) := below_then HW.out hb HW.out.size
    clear hb HW H
    go_wp2_with fail
    clear hgt
    refine (ram_read_ok H2.out Y (by omega) (by omega) 1 HM.out.2).mono ?_
    rintro e w3 ⟨v3, rfl, hown, hb⟩
    rw [HY.out] at hown
    obtain ⟨a3, c3, rfl, hib⟩ := bytes_own hown (bytesAt_bd H2.out.bd _ _)
    have H3 := Lib.hid (H2.out.below hb)
    have HW3 : Hid (Below w.heap.size w w3) := below_then HW2.out hb HW2.out.size
    have I3 := Lib.hid hib
    have P3 := Lib.hid (own_apart hown (S := S) (fun g hg => H2.out.lt hg))
    have J1 := Lib.hid (isB_turned I1.out (Turned.of_below HW3.out (fun _ => False)) (fun _ _ _ _ e => e))
    clear hb hown hib H2 HW2
    go_wp2_with fail
    refine (ram_write_ok H3.out X (by omega) (by omega) a1 m cap1 HM.out.1 l J1.out (P1.out S HS.out)).mono ?_
    rintro e w4 ⟨rfl, hto⟩
    rw [HX.out] at hto
    obtain ⟨S4, hat4, ht4, hs4⟩ := hto
    have HS4 : Hid (∀ g, S4 g → w.heap.size ≤ g) := fun g hg => by
      rcases hs4 g hg with h | h
      · exact HS.out g h
      · have := HW3.out.size; omega
    have HW4 : Hid (Below w.heap.size w w4) := HW3.out.trans (ht4.below HW3.out.size HS.out)
    have H4 := Lib.hid hat4
    have I4 := Lib.hid (isB_turned I3.out ht4 P3.out)
    clear ht4 hs4 hat4 H3 HS HW3 J1 I3 P3
    generalize hC : putTo (fun _ => 0) q (fun i => (l.getD i 0).toNat) (fun _ => true) m = C at *
    have HC := Lib.hid hC
    clear hC
    go_wp2_with fail
    refine (ram_read_ok H4.out X (by omega) (by omega) m HM.out.1).mono ?_
    rintro e w5 ⟨v5, rfl, hown, hb⟩
    rw [HX.out] at hown
    obtain ⟨a5, c5, rfl, hib⟩ := bytes_own hown (bytesAt_bd H4.out.bd _ _)
    rw [HL.out] at hib
    have H5 := Lib.hid (H4.out.below hb)
    have HW5 : Hid (Below w.heap.size w w5) := below_then HW4.out hb HW4.out.size
    have I5 := Lib.hid hib
    have J4 := Lib.hid (isB_same I4.out hb)
    clear hb hown hib H4 HW4 I4
    go_wp2_with fail
    refine (ram_read_ok H5.out Y (by omega) (by omega) 1 HM.out.2).mono ?_
    rintro e w6 ⟨v6, rfl, hown, hb⟩
    rw [HY.out] at hown
    obtain ⟨a6, c6, rfl, hib⟩ := bytes_own hown (bytesAt_bd H5.out.bd _ _)
    have H6 := Lib.hid (H5.out.below hb)
    have HW6 : Hid (Below w.heap.size w w6) := below_then HW5.out hb HW5.out.size
    have I6 := Lib.hid hib
    have J5 := Lib.hid (isB_same I5.out hb)
    have L4 := Lib.hid (isB_same J4.out hb)
    have P6 := Lib.hid (own_apart hown (S := S4) (fun g hg => H5.out.lt hg))
    have J1 := Lib.hid (isB_turned I1.out (Turned.of_below HW6.out (fun _ => False)) (fun _ _ _ _ e => e))
    clear hb hown hib H5 HW5 I5 J4
    have hwx : IntKind.u64.wrap (X + m) = X + m := by have := HM2.out; rw [IntKind.wrap_u64]; omega
    have hwm : IntKind.u64.wrap (m : Int) = m := by have := HM2.out; rw [IntKind.wrap_u64]; omega
    have HSAME : Hid (Y < X ∨ X + m ≤ Y → bytesAt C p 1 = bytesAt (fun _ => 0) p 1) := fun hh => by
      refine bytesAt1 _ _ _ ?_
      rw [HCT.out, if_neg]
      intro h3
      have := HX.out
      have := HY.out
      omega
    go_upto_region 11 with fail
    go_cut [94] (fun s94 wx => s94 = .bool false ∧ wx = w6)
    case first =>
      by_cases c1 : Y < X
      · have HE := Lib.hid (HSAME.out (.inl c1))
        go_wp2_with fail
        refine (same_bytes a5 a1 m m c5 cap1 _ _ _ J5.out J1.out).mono ?_
        rintro e w7 ⟨rfl, rfl⟩
        rw [show eqB l l = true by simp [eqB]]
        go_wp2_with fail
        refine (same_bytes a3 a6 1 1 c3 c6 _ _ _ L4.out I6.out).mono ?_
        rintro e w8 ⟨rfl, rfl⟩
        rw [HE.out, show eqB (bytesAt (fun _ => 0) p 1) (bytesAt (fun _ => 0) p 1) = true by simp [eqB]]
        go_wp2_with fail
        go_meet
        exact ⟨rfl, rfl⟩
      · by_cases c2 : X + m ≤ Y
        · have HE := Lib.hid (HSAME.out (.inr c2))
          go_wp2_with fail
          refine (same_bytes a5 a1 m m c5 cap1 _ _ _ J5.out J1.out).mono ?_
          rintro e w7 ⟨rfl, rfl⟩
          rw [show eqB l l = true by simp [eqB]]
          go_wp2_with fail
          refine (same_bytes a3 a6 1 1 c3 c6 _ _ _ L4.out I6.out).mono ?_
          rintro e w8 ⟨rfl, rfl⟩
          rw [HE.out, show eqB (bytesAt (fun _ => 0) p 1) (bytesAt (fun _ => 0) p 1) = true by simp [eqB]]
          go_wp2_with fail
          go_meet
          exact ⟨rfl, rfl⟩
        · have hb1 : decide (Y < X) = false := decide_eq_false c1
          have hb2 : decide (X + m ≤ Y) = false := decide_eq_false c2
          have HS := HSAME
          clear c1 c2
          go_wp2_with fail
          refine (same_bytes a5 a1 m m c5 cap1 _ _ _ J5.out J1.out).mono ?_
          rintro e w7 ⟨rfl, rfl⟩
          rw [show eqB l l = true by simp [eqB]]
          go_wp2_with fail
          go_meet
          exact ⟨rfl, rfl⟩
    case rest =>
      obtain ⟨rfl, rfl⟩ := hcut
      clear HSAME J5 J1 L4 hwx
      have hval := mayErr_val 8 Y k
      by_cases hz : mayErr 8 Y k = 0
      · clear hval
        have HZ := Lib.hid hz
        clear hz
        go_wp2_with fail
        refine (ram_word_ok H6.out Y (by omega) (by omega) k HZ.out).mono ?_
        rintro e w7 ⟨rfl, hb⟩
        rw [HY.out]
        have H7 := Lib.hid (H6.out.below hb)
        have HW7 := Lib.hid (below_then HW6.out hb HW6.out.size)
        have I7 := Lib.hid (isB_same I6.out hb)
        have P7 := Lib.hid hb
        clear hb HW6
        have HFIX := Lib.hid (show ∀ i, putWord C p k.toNat (wordAt C p k.toNat) i = C i from putWord_wordAt C H6.out.bd p k.toNat)
        generalize wordAt C p k.toNat = V at *
        go_wp2_with fail
        refine (ram_put_ok H7.out Y (by omega) (by omega) k V HZ.out).mono ?_
        rintro e w8 ⟨rfl, hto⟩
        rw [HY.out] at hto
        obtain ⟨S8, hat8, ht8, hs8⟩ := hto
        have HW8 := Lib.hid (HW7.out.trans (ht8.below HW7.out.size HS4.out))
        have H8 := Lib.hid (hat8.ext HFIX.out)
        have I8 := Lib.hid (isB_turned I7.out ht8 P6.out)
        clear ht8 hs8 hat8 H7 HW7 I7 P7
        go_wp2_with fail
        refine (law_read H8.out Y (by omega) (by omega) HM.out.2).mono ?_
        rintro e w9 ⟨v9, rfl, hown, hb⟩
        rw [HY.out] at hown
        obtain ⟨a9, c9, rfl, hib⟩ := bytes_own hown (bytesAt_bd H8.out.bd _ _)
        have HW9 := Lib.hid (below_then HW8.out hb HW8.out.size)
        have I9 := Lib.hid hib
        have J8 := Lib.hid (isB_same I8.out hb)
        clear hb hown hib HW8 I8 H8
        go_wp2_with fail
        refine (same_bytes a6 a9 1 1 c6 c9 _ _ _ J8.out I9.out).mono ?_
        rintro e wa ⟨rfl, rfl⟩
        rw [show eqB (bytesAt C p 1) (bytesAt C p 1) = true by simp [eqB]]
        go_wp2_with fail
        go_ret
        exact ⟨rfl, HW9.out⟩
      · have HW := Lib.hid (ram_word_err H6.out Y (by omega) (by omega) k hz)
        rcases hval with h | h | ⟨h, hn, hk⟩ | ⟨_, hn, hk, ha⟩
        · exact absurd h hz
        · rw [h] at HW
          clear h hz
          go_wp2_with fail
          refine HW.out.mono ?_
          rintro e w7 ⟨rfl, hb⟩
          have HW7 := Lib.hid (below_then HW6.out hb HW6.out.size)
          clear hb
          go_wp2_with fail
          go_ret
          exact ⟨rfl, HW7.out⟩
        · rw [h] at HW
          clear h hz
          have k0 : 0 ≤ k := by omega
          have hwk : IntKind.u64.wrap k = k := by rw [IntKind.wrap_u64]; omega
          have k1 : ¬ k = 0 := by omega
          have hne : (Y % k != 0) = true := by simpa using hn
          clear hn hk
          go_wp2_with fail
          refine HW.out.mono ?_
          rintro e w7 ⟨rfl, hb⟩
          have HW7 := Lib.hid (below_then HW6.out hb HW6.out.size)
          clear hb
          go_wp2_with fail
          go_ret
          exact ⟨ret_bool (by first | rfl | simp [hne]), HW7.out⟩
        · exfalso
          have hp3 := HP2.out
          rw [← Bool.not_eq_true] at ha
          apply ha
          simp only [ramAll, isRam, Bool.or_eq_true, Bool.and_eq_true, decide_eq_true_eq]
          rcases hk with rfl | rfl | rfl | rfl <;> omega
  · have hgt : decide ((2000 : Int) < (m : Int)) = true := decide_eq_true (by omega)
    clear hm2
    go_enter Try.func10, Try.ntmps10
    go_wp2_with fail
    refine (ram_new 8 (by omega) (by omega) w).mono ?_
    rintro e w1 ⟨b, S, rfl, hat, hS, hb, hw⟩
    have HW := Lib.hid hw
    clear hat hw hS hb
    go_wp2_with fail
    refine (ram_awake _).mono ?_
    rintro e w2 ⟨rfl, hb⟩
    have HW2 : Hid (Below w.heap.size w w2) := below_then HW.out hb HW.out.size
    clear hb HW
    go_wp2_with fail
    refine (ram_awake _).mono ?_
    rintro e w3 ⟨rfl, hb⟩
    have HW3 : Hid (Below w.heap.size w w3) := below_then HW2.out hb HW2.out.size
    clear hb HW2
    go_wp2_with fail
    go_ret
    exact ⟨rfl, HW3.out⟩
theorem ram_back_walk (w : World) (a0 : Int) (w0 : (Lit.int .u64 a0).wf = true)
    (a1 : Option Addr) (len1 cap1 : Nat) (z1 : Nat → Int) (b1 : ∀ i, (Lit.int .u8 (z1 i)).wf = true) (w1 : ArgRow w a1 len1 cap1 (fun i => .int .u8 (z1 i))) (m1 : cap1 * 1 ≤ 140737488351232)
    (a2 : Int) (w2 : (Lit.int .u64 a2).wf = true) (a3 : Int) (w3 : (Lit.int .i64 a3).wf = true) :
    Calls Try.prog 10 #[.int .u64 a0, .slice a1 len1 cap1, .int .u64 a2, .int .i64 a3] w fun e w' => e = .returned (.bool true) ∧ Below w.heap.size w w' := by
  have e1 := w1.le
  exact ram_back w a0 a2 a3 (wf_u64' w0).1 (wf_u64' w2).1 a1 len1 cap1 (by omega) e1 _ (argB w1 b1 (by omega)) (fun S h => w1.apart h)
end Go.Proofs.Ytebdbbpefmgooaa
