/- RamWords: the walk. No condition. -/
import Derived.Test.YtebdbbpefmgooaaRamNilW
import Derived.Test.YtebdbbpefmgooaaWordN
import Derived.StillTailTactics
import Derived.BigRegion
import Derived.Deep.RegionWith
import Derived.Deep.RegionHeld3
import Derived.Deep.QuietTactic
import Derived.BigQuiet
import Derived.Deep.LoopGhost
import Derived.Deep.DeepCutAuto
import Derived.Deep.DeepFit
import Derived.Deep.DeepMust
import Derived.Handy
set_option linter.unusedVariables false
set_option linter.unusedSimpArgs false
namespace Go.Proofs.Ytebdbbpefmgooaa
open Go.RowKit
theorem xor_all (v : Nat) (hv : v < 2 ^ 64) : bits .xor .u64 IntKind.u64.max (v : Int) = ((18446744073709551615 - v : Nat) : Int) := by
  have e : IntKind.u64.max = ((18446744073709551615 : Nat) : Int) := rfl
  rw [e, u64_xor_nat _ _ (by omega) (by omega)]
  have h : (BitVec.allOnes 64 ^^^ BitVec.ofNat 64 v) = ~~~ (BitVec.ofNat 64 v) := BitVec.allOnes_xor
  have := congrArg BitVec.toNat h
  rw [BitVec.toNat_xor, BitVec.toNat_not, BitVec.toNat_allOnes, BitVec.toNat_ofNat, Nat.mod_eq_of_lt hv] at this
  exact congrArg Int.ofNat this
set_option maxRecDepth 100000 in
set_option maxHeartbeats 8000000 in
theorem ram_words (a0 : Int) (h0 : 0 ≤ a0) (v : Nat) (hv : v < 2 ^ 64) (w : World) :
    Calls Try.prog 11 #[.int .u64 a0, .int .u64 v] w fun e w' => e = .returned (.bool true) ∧ Below w.heap.size w w' := by
  obtain ⟨q, hq⟩ := Int.eq_ofNat_of_zero_le (show 0 ≤ a0 % 2048 by omega)
  have hq2 : (q : Int) < 2048 := by omega
  have HV := Lib.hid hv
  clear hv
  obtain ⟨lo, hlo⟩ : ∃ lo, v % 2 ^ (8 * 4) = lo := ⟨_, rfl⟩
  obtain ⟨hi, hhi⟩ : ∃ hi, v / 2 ^ (8 * 4) % 2 ^ (8 * 4) = hi := ⟨_, rfl⟩
  have HOR := Lib.hid (show bits .or .u64 (lo : Int) (IntKind.u64.wrap ((hi : Int) * 4294967296)) = (v : Int) from by
    have := halves_or v HV.out
    rw [hlo, hhi] at this
    rw [← this]
    congr 1
    rw [IntKind.wrap_u64]
    have := HV.out
    omega)
  have HLO := Lib.hid hlo
  have HHI := Lib.hid hhi
  clear hlo hhi
  generalize hX : (2147483648 : Int) + (q : Int) * 8 = X
  have HX := Lib.hid hX
  have x0 : 2147483648 ≤ X := by omega
  have x1 : X < 2147500032 := by omega
  have HO := Lib.hid (show (X - 2147483648).toNat = q * 8 by omega)
  have HE := Lib.hid (show (X + 4 - 2147483648).toNat = q * 8 + 4 by omega)
  have HK := Lib.hid (show ∀ k : Nat, (X + k - 2147483648).toNat = q * 8 + k from fun k => by omega)
  have HM := Lib.hid (show (mayErr 4 X 8 = 0 ∧ mayErr 4 X 4 = 0 ∧ mayErr 4 (X + 4) 4 = 0 ∧ ramAll 4 X 8 = true) ∧ ∀ k : Nat, k < 8 → mayErr 4 (X + k) 1 = 0 from by
    have am : ∀ (y k : Int), 2147483648 ≤ y → y + k ≤ 2147500032 → 0 < k → ramAll 4 y k = true := fun y k h1 h2 h3 => by
      simp only [ramAll, isRam, Bool.or_eq_true, Bool.and_eq_true, decide_eq_true_eq]
      omega
    refine ⟨⟨?_, ?_, ?_, am _ _ (by omega) (by omega) (by omega)⟩, fun k hk => ?_⟩
    · unfold mayErr; rw [if_pos (by omega), if_pos (by omega), am _ _ (by omega) (by omega) (by omega)]; rfl
    · unfold mayErr; rw [if_pos (by omega), if_pos (by omega), am _ _ (by omega) (by omega) (by omega)]; rfl
    · unfold mayErr; rw [if_pos (by omega), if_pos (by omega), am _ _ (by omega) (by omega) (by omega)]; rfl
    · unfold mayErr; rw [if_pos (by omega), if_pos (by omega), am _ _ (by omega) (by omega) (by omega)]; rfl)
  go_enter Try.func11, Try.ntmps11
  go_wp2_with fail
  refine (ram_new 4 (by omega) (by omega) w).mono ?_
  rintro e w1 ⟨b, S, rfl, hat, hS, hb, hw⟩
  have H := Lib.hid hat
  have HW := Lib.hid hw
  have HS := Lib.hid hS
  clear hat hw hS hb
  go_wp2_with fail
  refine (ram_awake _).mono ?_
  rintro e w2 ⟨rfl, hb⟩
  have H2 := Lib.hid (H.out.below hb)
  have HW2 : Hid (Below w.heap.size w w2) := below_then HW.out hb HW.out.size
  clear hb HW H
  go_wp2_with fail
  refine (ram_put_ok H2.out X (by omega) (by omega) 8 v HM.out.1.1).mono ?_
  rintro e w3 ⟨rfl, hto⟩
  rw [HO.out, show ((8 : Int)).toNat = 8 from rfl] at hto
  obtain ⟨S3, hat3, ht3, hs3⟩ := hto
  have HS3 : Hid (∀ g, S3 g → w.heap.size ≤ g) := fun g hg => by
    rcases hs3 g hg with h | h
    · exact HS.out g h
    · have := HW2.out.size; omega
  have HW3 : Hid (Below w.heap.size w w3) := HW2.out.trans (ht3.below HW2.out.size HS.out)
  have H3 := Lib.hid hat3
  clear ht3 hs3 hat3 H2 HS HW2
  go_wp2_with fail
  refine (ram_word_ok H3.out X (by omega) (by omega) 4 HM.out.1.2.1).mono ?_
  rintro e w4 ⟨rfl, hb⟩
  rw [HO.out, show ((4 : Int)).toNat = 4 from rfl, show wordAt (putWord (fun _ => 0) (q * 8) 8 v) (q * 8) 4 = v % 2 ^ (8 * 4) from by have := word_putWord_in (fun _ => 0) (q * 8) 8 v 0 4 (by omega); simpa using this, HLO.out]
  have H4 := Lib.hid (H3.out.below hb)
  have HW4 : Hid (Below w.heap.size w w4) := below_then HW3.out hb HW3.out.size
  clear hb H3 HW3
  have hw4 : IntKind.u64.wrap (X + 4) = X + 4 := by rw [IntKind.wrap_u64]; omega
  go_wp2_with fail
  refine (ram_word_ok H4.out (X + 4) (by omega) (by omega) 4 HM.out.1.2.2.1).mono ?_
  rintro e w5 ⟨rfl, hb⟩
  rw [HE.out, show ((4 : Int)).toNat = 4 from rfl, show wordAt (putWord (fun _ => 0) (q * 8) 8 v) (q * 8 + 4) 4 = v / 2 ^ (8 * 4) % 2 ^ (8 * 4) from word_putWord_in _ _ _ _ _ _ (by omega), HHI.out]
  have H5 := Lib.hid (H4.out.below hb)
  have HW5 : Hid (Below w.heap.size w w5) := below_then HW4.out hb HW4.out.size
  clear hb H4 HW4
  go_wp2_with fail
  refine (ram_read_ok H5.out X (by omega) (by omega) 8 HM.out.1.2.2.2).mono ?_
  rintro e w6 ⟨vv, rfl, hown, hb⟩
  rw [HO.out] at hown
  obtain ⟨a, c, rfl, hib⟩ := bytes_own hown (bytesAt_bd H5.out.bd _ _)
  have H6 := Lib.hid (H5.out.below hb)
  have HW6 : Hid (Below w.heap.size w w6) := below_then HW5.out hb HW5.out.size
  have HIB := Lib.hid hib
  have HAP : Hid (Apart S3 a) := by
    rintro b' o s rfl hS
    have h1 := H5.out.lt hS
    rcases hown.2 with ⟨h, _⟩ | ⟨g, cap, cur, h, hg, _⟩
    · cases h
    · injection h with h
      injection h with h
      injection h with h
      omega
  clear hb hown hib H5 HW5
  have hor := HOR.out
  go_wp2_with fail
  clear hor
  go_loopw [13] (fun i wr => ∃ k : Nat, (k : Int) ≤ 8 ∧ i = .int .i64 k ∧ RamTo w6 wr b 4 (turnedTo (fun _ => 0) (q * 8) v k) S3) (fun i _ => 8 - (intOf i).toNat)
  case atStart => exact ⟨0, by omega, rfl, by rw [turnedTo_0]; exact H6.out.to⟩
  case round =>
    obtain ⟨k, hk, rfl, hr⟩ := hrel
    obtain ⟨S', hat, ht, hsub, hnext⟩ := hr.step
    have HA := Lib.hid hat
    have HN := Lib.hid hnext
    have HB2 := Lib.hid (isB_turned HIB.out ht HAP.out)
    have HW7 : Hid (Below w.heap.size w wr) := HW6.out.trans (ht.below HW6.out.size HS3.out)
    clear hat hnext ht hsub hr
    by_cases hlt : (k : Int) < 8
    · clear hk
      have hwk : IntKind.u64.wrap (X + k) = X + k := by rw [IntKind.wrap_u64]; omega
      have hwk0 : IntKind.u64.wrap (k : Int) = k := by rw [IntKind.wrap_u64]; omega
      go_wp2_with fail
      refine (ram_word_ok HA.out (X + k) (by omega) (by omega) 1 (HM.out.2 k (by omega))).mono ?_
      rintro e w7 ⟨rfl, hb⟩
      rw [HK.out, show ((1 : Int)).toNat = 1 from rfl, turnedTo_byte _ _ _ _ (by omega)]
      have HA7 := Lib.hid (HA.out.below hb)
      have HB7 := Lib.hid hb
      clear hb
      have hand : bits .and .u64 ((v : Int) / 2 ^ (8 * k)) 255 = ((v / 2 ^ (8 * k) % 256 : Nat) : Int) := by
        have := and255 (v / 2 ^ (8 * k)) (Nat.lt_of_le_of_lt (Nat.div_le_self _ _) HV.out)
        rw [← this, Int.natCast_ediv, Int.natCast_pow]; rfl
      have hxor := xor255 (v / 2 ^ (8 * k) % 256) (by omega)
      obtain ⟨g, o, rfl, hc⟩ : ∃ g o, a = some ⟨g, o, none⟩ ∧ w7.cell? ⟨g, o + k, none⟩ = some (.int .u8 (v / 2 ^ (8 * k) % 256 : Nat)) := by
        rcases (isB_turned HB2.out (Turned.of_below HB7.out (fun _ => False)) (fun _ _ _ _ e => e)).cell with ⟨_, h0⟩ | ⟨g, o, rfl, h⟩
        · omega
        · refine ⟨g, o, rfl, (h k (by omega)).trans ?_⟩
          rw [bytesAt_getD _ _ _ _ (by omega)]
          unfold putWord
          rw [if_pos ⟨by omega, by omega⟩, Nat.add_sub_cancel_left]
      generalize hbk : v / 2 ^ (8 * k) % 256 = bk at *
      have HBK := Lib.hid hbk
      clear hbk
      have hbk2 : (bk : Int) < 256 := by have := HBK.out; omega
      have hwb : IntKind.u64.wrap (bk : Int) = bk := by rw [IntKind.wrap_u64]; omega
      go_wp2_with fail
      refine (ram_put_ok HA7.out (X + k) (by omega) (by omega) 1 (255 - bk) (HM.out.2 k (by omega))).mono ?_
      rintro e w8 ⟨rfl, hto⟩
      rw [HK.out, show ((1 : Int)).toNat = 1 from rfl, ← HBK.out, turnedTo_step _ _ _ _ (by omega)] at hto
      have HF := Lib.hid (HN.out _ _ (hto.from_below HB7.out))
      clear hto
      go_wp2_with fail
      exact ⟨⟨k + 1, by omega, by rw [Int.natCast_succ], HF.out⟩, by simp [intOf]; omega⟩
    · obtain rfl : k = 8 := by omega
      clear hk hlt
      go_wp2_with fail
      refine (ram_word_ok HA.out X (by omega) (by omega) 8 HM.out.1.1).mono ?_
      rintro e w7 ⟨rfl, hb⟩
      rw [HO.out, show ((8 : Int)).toNat = 8 from rfl, turnedTo_8 _ _ _ HV.out]
      have HW8 : Hid (Below w.heap.size w w7) := below_then HW7.out hb HW7.out.size
      clear hb
      go_wp2_with fail
      go_ret
      exact ⟨ret_bool (by rw [xor_all v HV.out]; simp), HW8.out⟩
theorem ram_words_walk (w : World) (a0 : Int) (w0 : (Lit.int .u64 a0).wf = true) (a1 : Int) (w1 : (Lit.int .u64 a1).wf = true) :
    Calls Try.prog 11 #[.int .u64 a0, .int .u64 a1] w fun e w' => e = .returned (.bool true) ∧ Below w.heap.size w w' := by
  have h0 : 0 ≤ a0 ∧ a0 ≤ 18446744073709551615 := by simpa [Lit.wf, IntKind.min, IntKind.max, IntKind.signed, IntKind.bits] using w0
  have h1 : 0 ≤ a1 ∧ a1 ≤ 18446744073709551615 := by simpa [Lit.wf, IntKind.min, IntKind.max, IntKind.signed, IntKind.bits] using w1
  obtain ⟨v, rfl⟩ := Int.eq_ofNat_of_zero_le h1.1
  exact ram_words a0 h0.1 v (by omega) w
end Go.Proofs.Ytebdbbpefmgooaa
