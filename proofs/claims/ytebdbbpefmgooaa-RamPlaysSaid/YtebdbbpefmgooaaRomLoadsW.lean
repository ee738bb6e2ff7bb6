/- RomLoads: the walk. No condition. -/
import Derived.Test.YtebdbbpefmgooaaRamNilW
import Derived.Test.YtebdbbpefmgooaaRom2
import Derived.Test.YtebdbbpefmgooaaSame
import Derived.Test.YtebdbbpefmgooaaArgsB
import Derived.StillTailTactics
import Derived.BigRegion
import Derived.Deep.RegionWith
import Derived.Deep.RegionHeld3
import Derived.Deep.QuietTactic
import Derived.BigQuiet
import Derived.Deep.LoopGhost
import Derived.Deep.DeepCutAuto
import Derived.Deep.DeepFit
import Derived.Deep.DeepMust
import Derived.Handy
set_option linter.unusedVariables false
set_option linter.unusedSimpArgs false
namespace Go.Proofs.Ytebdbbpefmgooaa
open Go.RowKit
/-- a memory with an image, in new blocks -/
def Loaded (w : World) (n : Nat) (l : List Int) (m : Nat) (e : Ending) (w' : World) : Prop :=
  ∃ b S, e = .returned (.tuple #[.pointer (some ⟨b, 0, none⟩), .int .i64 0]) ∧ RamAt w' b n (putTo (fun _ => 0) 0 (fun i => (l.getD i 0).toNat) (fun _ => true) m) S ∧ (∀ g, S g → w.heap.size ≤ g) ∧ w.heap.size ≤ b ∧ Below w.heap.size w w'
/-- no memory, and that error -/
def NoLoad (w : World) (k : Int) (e : Ending) (w' : World) : Prop := e = .returned (.tuple #[.pointer none, .int .i64 k]) ∧ Below w.heap.size w w'
set_option maxRecDepth 100000 in
set_option maxHeartbeats 2000000 in
theorem rom_load_arg (n : Int) (h : n < 4 ∨ 256 < n) (a : Option Addr) (m c : Nat) (w : World) : Calls Try.prog 36 #[.int .i64 n, .slice a m c] w (NoLoad w 1) := by
  have H := Lib.hid (ram_new_arg n h w)
  have HB := Lib.hid (Below.refl w.heap.size w)
  clear h
  go_enter Try.func36, Try.ntmps36
  go_wp2_with fail
  refine H.out.mono ?_
  rintro e w1 ⟨rfl, rfl⟩
  go_wp2_with fail
  go_ret2
  exact ⟨rfl, HB.out⟩
set_option maxRecDepth 100000 in
set_option maxHeartbeats 2000000 in
theorem rom_load_full (n : Nat) (h4 : 4 ≤ n) (h256 : n ≤ 256) (a : Option Addr) (m c : Nat) (hm : (n : Int) * 4096 < m) (hm2 : (m : Int) ≤ 9223372036854775807) (w : World) : Calls Try.prog 36 #[.int .i64 n, .slice a m c] w (NoLoad w 3) := by
  have h1 : (4 : Int) ≤ n := by omega
  have h2 : (n : Int) ≤ 256 := by omega
  have hN := Lib.hid (And.intro h4 h256)
  clear h4 h256
  go_enter Try.func36, Try.ntmps36
  go_wp2_with fail
  refine (ram_new n hN.out.1 hN.out.2 w).mono ?_
  rintro e w1 ⟨b, S, rfl, hat, hS, hb, hw⟩
  have HW := Lib.hid hw
  clear hat hw hS hb
  go_wp2_with fail
  go_ret2
  exact ⟨rfl, HW.out⟩
set_option maxRecDepth 100000 in
set_option maxHeartbeats 2000000 in
theorem rom_load_ok (n : Nat) (h4 : 4 ≤ n) (h256 : n ≤ 256) (a : Option Addr) (m c : Nat) (hm : (m : Int) ≤ (n : Int) * 4096) (w : World) (l : List Int) (hl : IsB w a m l) (hp : ∀ S : Nat → Prop, (∀ g, S g → w.heap.size ≤ g) → Apart S a) :
    Calls Try.prog 36 #[.int .i64 n, .slice a m c] w (Loaded w n l m) := by
  have h1 : (4 : Int) ≤ n := by omega
  have h2 : (n : Int) ≤ 256 := by omega
  have hN := Lib.hid (And.intro h4 h256)
  have HL := Lib.hid hl
  have HP := Lib.hid hp
  have HM := Lib.hid (show ramAll n 2147483648 m = true by
    simp only [ramAll, isRam, Bool.or_eq_true, Bool.and_eq_true, decide_eq_true_eq]
    omega)
  clear h4 h256 hl hp
  go_enter Try.func36, Try.ntmps36
  go_wp2_with fail
  refine (ram_new n hN.out.1 hN.out.2 w).mono ?_
  rintro e w1 ⟨b, S, rfl, hat, hS, hb, hw⟩
  have HW := Lib.hid hw
  have H := Lib.hid hat
  have HS := Lib.hid hS
  have HBB := Lib.hid hb
  have HL1 := Lib.hid (isB_turned HL.out (Turned.of_below HW.out (fun _ => False)) (fun _ _ _ _ e => e))
  clear hat hw hS hb
  go_wp2_with fail
  refine (ram_write_ok H.out 2147483648 (by omega) (by omega) a m c HM.out l HL1.out (HP.out S HS.out)).mono ?_
  rintro e w2 ⟨rfl, hto⟩
  obtain ⟨S2, hat2, ht2, hs2⟩ := hto
  have HS2 : Hid (∀ g, S2 g → w.heap.size ≤ g) := fun g hg => by
    rcases hs2 g hg with h | h
    · exact HS.out g h
    · have := HW.out.size; omega
  have HW2 : Hid (Below w.heap.size w w2) := HW.out.trans (ht2.below HW.out.size HS.out)
  have H2 := Lib.hid hat2
  clear ht2 hs2 hat2 H HS HW
  go_wp2_with fail
  go_ret2
  exact ⟨b, S2, rfl, H2.out, HS2.out, HBB.out, HW2.out⟩
set_option maxRecDepth 100000 in
set_option maxHeartbeats 1000000 in
/-- each byte is another one: only in that block -/
theorem spoil_in (b o n c : Nat) (hn : (n : Int) ≤ 9223372036854775807) (w : World) (hc : ∀ i, i < n → ∃ x, w.cell? ⟨b, o + i, none⟩ = some (.int .u8 x)) (hf : ∀ i, i < n → w.frozen? ⟨b, o + i, none⟩ = false) :
    Calls Try.prog 23 #[.slice (some ⟨b, o, none⟩) n c] w fun e w' => e = .returned (.tuple #[]) ∧ Turned (· = b) w w' := by
  have HC0 := Lib.hid hc; have HF0 := Lib.hid hf
  clear hc hf
  go_enter Try.func23, Try.ntmps23
  go_wp2
  go_loopw [2] (fun i wr => ∃ k : Nat, (k : Int) ≤ n ∧ i = .int .i64 k ∧ (∀ i, i < n → ∃ x, wr.cell? ⟨b, o + i, none⟩ = some (.int .u8 x)) ∧ (∀ i, i < n → wr.frozen? ⟨b, o + i, none⟩ = false) ∧ Turned (· = b) w wr) (fun i _ => n - (intOf i).toNat)
  case atStart => exact ⟨0, by omega, rfl, HC0.out, HF0.out, Turned.refl _ _⟩
  case round =>
    obtain ⟨k, hk, rfl, hc, hf, hb⟩ := hrel
    by_cases hlt : (k : Int) < n
    · obtain ⟨x, hx⟩ := hc k (by omega)
      have hfx := hf k (by omega)
      have HC := Lib.hid hc; have HF := Lib.hid hf; have HB := Lib.hid hb; clear hc hf hb hk
      go_wp2
      go_roundw
      case rel =>
        refine ⟨k + 1, by omega, by go_num, fun i hi => ?_, fun i hi => by rw [frozen_set]; exact HF.out i hi, HB.out.set (.inl rfl) _ _⟩
        rw [cell_set]
        obtain ⟨z, hz⟩ := HC.out i hi
        split
        · exact ⟨_, by rw [hz]; rfl⟩
        · exact ⟨z, hz⟩
      case measure => simp [intOf]; omega
    · have HB := Lib.hid hb; clear hc hf hb
      go_wp2
      go_end0
      exact ⟨rfl, HB.out⟩
theorem drewN_below (w : World) (k : Nat) : Below w.heap.size w (w.drewN k) := ⟨rfl, rfl, rfl, Nat.le_refl _, fun _ _ => rfl⟩
set_option maxRecDepth 100000 in
set_option maxHeartbeats 8000000 in
theorem rom_loads (w : World) (a0 : Int) (a1 : Option Addr) (m cap1 : Nat) (V : Nat → Int) (hmax : (m : Int) ≤ 140737488351232) (hn : a1 = none → cap1 = 0) (hle : m ≤ cap1) (hr : IsRow w a1 m (fun i => .int .u8 (V i))) (hb : IsB w a1 m (listOf V m)) (hV : ∀ i, 0 ≤ V i ∧ V i ≤ 255) (a2 : Int) (h2 : 0 ≤ a2) (ha0 : -9223372036854775808 ≤ a0 ∧ a0 ≤ 9223372036854775807) :
    Calls Try.prog 9 #[.int .i64 a0, .slice a1 m cap1, .int .u64 a2] w fun e w' => e = .returned (.bool true) ∧ Below w.heap.size w w' := by
  have HOWN := Lib.hid (own_u8 a1 m cap1 V 71 w hn hle hmax hr)
  have HR := Lib.hid hr
  have HIB := Lib.hid hb
  have HVV := Lib.hid hV
  have HN := Lib.hid (And.intro hn hle)
  have HMAX := Lib.hid hmax
  clear hr hb hn hle hV hmax
  have first : ∀ (w1 : World), w1.rowIs w.heap.size 5 (m + 3) (fun i => .int .u8 (if i < m then V i else 71)) → Below w.heap.size w w1 → IsB w1 (some ⟨w.heap.size, 0, none⟩) m (listOf V m) ∧ IsRow w1 a1 m (fun i => .int .u8 (V i)) := fun w1 h1 h2 => by
    refine ⟨⟨listOf_len _ _, fun x hx => ?_, .inr ⟨_, 0, rfl, fun i hi => ?_⟩⟩, isRow_turned HR.out (Turned.of_below h2 (fun _ => False)) (fun _ _ _ _ e => e)⟩
    · simp only [listOf, List.mem_map] at hx
      obtain ⟨i, _, rfl⟩ := hx
      exact HVV.out i
    · rw [Nat.zero_add, h1.cell (by omega), if_pos hi, listOf_getD _ _ _ hi]
  have HFIRST := Lib.hid first
  clear first
  by_cases harg : a0 < 4 ∨ 256 < a0
  · have HLD := Lib.hid (rom_load_arg a0 harg (some ⟨w.heap.size, 0, none⟩) m (m + 3))
    have hd : (decide (a0 < 4) || decide (256 < a0)) = true := by simpa using harg
    by_cases c1 : a0 < 4
    · clear harg hd
      go_enter Try.func9, Try.ntmps9
      go_wp2_with fail
      refine HOWN.out.mono ?_
      rintro e w1 ⟨rfl, hrow, hb⟩
      have HROW := Lib.hid hrow
      have HW := Lib.hid hb
      clear hrow hb HOWN
      go_wp2_with fail
      refine (HLD.out _).mono ?_
      rintro e w2 ⟨rfl, hb⟩
      have HROW2 := Lib.hid (HROW.out.of_block (hb.block _ HROW.out.lt))
      have HW2 := Lib.hid (below_then HW.out hb HW.out.size)
      clear hb HW HROW
      go_wp2_with fail
      refine (rom_awake _).mono ?_
      rintro e w3 ⟨rfl, hb⟩
      have HROW3 := Lib.hid (HROW2.out.of_block (hb.block _ HROW2.out.lt))
      have HW3 := Lib.hid (below_then HW2.out hb HW2.out.size)
      clear hb HW2 HROW2
      go_wp2_with fail
      refine (kept_u8 a1 m cap1 w.heap.size V 71 _ HMAX.out HROW3.out (HFIRST.out _ HROW3.out HW3.out).2).mono ?_
      rintro e w4 ⟨rfl, k, rfl⟩
      have HW4 := Lib.hid (below_then HW3.out (drewN_below w3 k) HW3.out.size)
      go_wp2_with fail
      go_ret
      exact ⟨rfl, HW4.out⟩
    · have c2 : 256 < a0 := by omega
      clear harg hd
      go_enter Try.func9, Try.ntmps9
      go_wp2_with fail
      refine HOWN.out.mono ?_
      rintro e w1 ⟨rfl, hrow, hb⟩
      have HROW := Lib.hid hrow
      have HW := Lib.hid hb
      clear hrow hb HOWN
      go_wp2_with fail
      refine (HLD.out _).mono ?_
      rintro e w2 ⟨rfl, hb⟩
      have HROW2 := Lib.hid (HROW.out.of_block (hb.block _ HROW.out.lt))
      have HW2 := Lib.hid (below_then HW.out hb HW.out.size)
      clear hb HW HROW
      go_wp2_with fail
      refine (rom_awake _).mono ?_
      rintro e w3 ⟨rfl, hb⟩
      have HROW3 := Lib.hid (HROW2.out.of_block (hb.block _ HROW2.out.lt))
      have HW3 := Lib.hid (below_then HW2.out hb HW2.out.size)
      clear hb HW2 HROW2
      go_wp2_with fail
      refine (kept_u8 a1 m cap1 w.heap.size V 71 _ HMAX.out HROW3.out (HFIRST.out _ HROW3.out HW3.out).2).mono ?_
      rintro e w4 ⟨rfl, k, rfl⟩
      have HW4 := Lib.hid (below_then HW3.out (drewN_below w3 k) HW3.out.size)
      go_wp2_with fail
      go_ret
      exact ⟨rfl, HW4.out⟩
  · obtain ⟨n, rfl⟩ := Int.eq_ofNat_of_zero_le (show 0 ≤ a0 by omega)
    have hn4 : (4 : Int) ≤ n := by omega
    have hn256 : (n : Int) ≤ 256 := by omega
    have HNN := Lib.hid (show 4 ≤ n ∧ n ≤ 256 by omega)
    have HM63 := Lib.hid (show (m : Int) ≤ 9223372036854775807 from by have := HMAX.out; omega)
    clear harg ha0
    by_cases hfull : (n : Int) * 4096 < m
    · have HLD := Lib.hid (rom_load_full n HNN.out.1 HNN.out.2 (some ⟨w.heap.size, 0, none⟩) m (m + 3) hfull HM63.out)
      go_enter Try.func9, Try.ntmps9
      go_wp2_with fail
      refine HOWN.out.mono ?_
      rintro e w1 ⟨rfl, hrow, hb⟩
      have HROW := Lib.hid hrow
      have HW := Lib.hid hb
      clear hrow hb HOWN
      go_wp2_with fail
      refine (HLD.out _).mono ?_
      rintro e w2 ⟨rfl, hb⟩
      have HROW2 := Lib.hid (HROW.out.of_block (hb.block _ HROW.out.lt))
      have HW2 := Lib.hid (below_then HW.out hb HW.out.size)
      clear hb HW HROW
      go_wp2_with fail
      refine (rom_awake _).mono ?_
      rintro e w3 ⟨rfl, hb⟩
      have HROW3 := Lib.hid (HROW2.out.of_block (hb.block _ HROW2.out.lt))
      have HW3 := Lib.hid (below_then HW2.out hb HW2.out.size)
      clear hb HW2 HROW2
      go_wp2_with fail
      refine (kept_u8 a1 m cap1 w.heap.size V 71 _ HMAX.out HROW3.out (HFIRST.out _ HROW3.out HW3.out).2).mono ?_
      rintro e w4 ⟨rfl, k, rfl⟩
      have HW4 := Lib.hid (below_then HW3.out (drewN_below w3 k) HW3.out.size)
      go_wp2_with fail
      go_ret
      exact ⟨rfl, HW4.out⟩
    · have HLD := Lib.hid (rom_load_ok n HNN.out.1 HNN.out.2 (some ⟨w.heap.size, 0, none⟩) m (m + 3) (by omega))
      have hle : (m : Int) ≤ (n : Int) * 4096 := by omega
      obtain ⟨q, hq⟩ := Int.eq_ofNat_of_zero_le (show 0 ≤ a2 % ((n : Int) * 4096) from Int.emod_nonneg _ (by omega))
      have HQ := Lib.hid (show (q : Int) < (n : Int) * 4096 from by have h := Int.emod_lt_of_pos a2 (show (0 : Int) < (n : Int) * 4096 by omega); rw [hq] at h; exact h)
      have HRAM := Lib.hid (show ramAll n (2147483648 + q) 1 = true from by
        have := HQ.out
        simp only [ramAll, isRam, Bool.or_eq_true, Bool.and_eq_true, decide_eq_true_eq]
        omega)
      have HO := Lib.hid (show ((2147483648 : Int) + q - 2147483648).toNat = q by omega)
      have HCQ := Lib.hid (show putTo (fun _ => 0) 0 (fun i => ((listOf V m).getD i 0).toNat) (fun _ => true) m q = if (q : Int) < m then (V q).toNat else 0 from by
        rw [putTo_at]
        by_cases h : (q : Int) < m
        · rw [if_pos ⟨by omega, by omega, rfl⟩, if_pos h, Nat.sub_zero, listOf_getD _ _ _ (by omega)]
        · rw [if_neg (by omega), if_neg h])
      obtain ⟨C, hC⟩ : ∃ C, putTo (fun _ => 0) 0 (fun i => ((listOf V m).getD i 0).toNat) (fun _ => true) m = C := ⟨_, rfl⟩
      rw [hC] at HCQ
      have HCC := Lib.hid hC
      clear hC
      go_enter Try.func9, Try.ntmps9
      go_wp2_with fail
      refine HOWN.out.mono ?_
      rintro e w1 ⟨rfl, hrow, hb⟩
      have HROW := Lib.hid hrow
      have HW := Lib.hid hb
      clear hrow hb HOWN
      go_wp2_with fail
      refine (HLD.out w1 (listOf V m) (HFIRST.out _ HROW.out HW.out).1 (fun S hS => by rintro b' o s he hb'; cases he; have := hS _ hb'; have := HROW.out.lt; omega)).mono ?_
      rintro e w2 ⟨b, S, rfl, hat, hS, hbb, hb⟩
      rw [HCC.out] at hat
      have H2 := Lib.hid hat
      have HSB := Lib.hid (show (∀ g, S g → w.heap.size < g) ∧ w.heap.size < b from ⟨fun g hg => by have := hS g hg; have := HROW.out.lt; omega, by have := HROW.out.lt; omega⟩)
      have HROW2 := Lib.hid (HROW.out.of_block (hb.block _ HROW.out.lt))
      have HW2 := Lib.hid (below_then HW.out hb HW.out.size)
      clear hb HW HROW hat hS hbb
      go_wp2_with fail
      refine (rom_awake _).mono ?_
      rintro e w3 ⟨rfl, hb⟩
      have H3 := Lib.hid (H2.out.below hb)
      have HROW3 := Lib.hid (HROW2.out.of_block (hb.block _ HROW2.out.lt))
      have HW3 := Lib.hid (below_then HW2.out hb HW2.out.size)
      clear hb HW2 HROW2
      go_wp2_with fail
      refine (kept_u8 a1 m cap1 w.heap.size V 71 _ HMAX.out HROW3.out (HFIRST.out _ HROW3.out HW3.out).2).mono ?_
      rintro e w4 ⟨rfl, k, rfl⟩
      have HW4 := Lib.hid (below_then HW3.out (drewN_below w3 k) HW3.out.size)
      have H4 := Lib.hid (H3.out.below (drewN_below w3 k))
      have HROW4 := Lib.hid (HROW3.out.of_block (w' := w3.drewN k) rfl)
      clear HROW3 H3 HW3 H2
      go_wp2_with fail
      refine (ram_pages H4.out).mono ?_
      rintro e w5 ⟨rfl, rfl⟩
      go_wp2_with fail
      refine (spoil_in w.heap.size 0 m (m + 3) HM63.out _ (fun i hi => ⟨_, by rw [Nat.zero_add]; exact HROW4.out.cell (by omega)⟩) (fun i hi => HROW4.out.frozen _)).mono ?_
      rintro e w6 ⟨rfl, ht⟩
      have H6 := Lib.hid (H4.out.turned ht (fun e => by have := HSB.out.2; omega) (fun g hg e => by have := HSB.out.1 g hg; omega))
      have HW6 : Hid (Below w.heap.size w w6) := HW4.out.trans (ht.below HW4.out.size (fun g e => by rw [e]; exact Nat.le_refl _))
      clear ht H4 HW4 HROW4
      have hwn : IntKind.u64.wrap ((n : Int) * 4096) = n * 4096 := by rw [IntKind.wrap_u64]; omega
      have hwq : IntKind.u64.wrap (2147483648 + (q : Int)) = 2147483648 + q := by have := HQ.out; rw [IntKind.wrap_u64]; omega
      have hwm : IntKind.u64.wrap (m : Int) = m := by have := HMAX.out; rw [IntKind.wrap_u64]; omega
      go_wp2_with fail
      refine (ram_read_ok H6.out (2147483648 + q) (by omega) (by have := HQ.out; omega) 1 HRAM.out).mono ?_
      rintro e w7 ⟨v7, rfl, hown, hb⟩
      rw [HO.out] at hown
      obtain ⟨a7, c7, rfl, hib⟩ := bytes_own hown (bytesAt_bd H6.out.bd _ _)
      have HW7 := Lib.hid (below_then HW6.out hb HW6.out.size)
      obtain ⟨g7, o7, rfl, hc7⟩ : ∃ g o, a7 = some ⟨g, o, none⟩ ∧ w7.cell? ⟨g, o, none⟩ = some (.int .u8 (C q)) := by
        rcases hib.cell with ⟨_, h0⟩ | ⟨g, o, h, hc⟩
        · omega
        · refine ⟨g, o, h, (hc 0 (by omega)).trans ?_⟩
          rw [bytesAt_getD _ _ _ _ (by omega)]
          rfl
      have HR7 := Lib.hid (isRow_turned HR.out (Turned.of_below HW7.out (fun _ => False)) (fun _ _ _ _ e => e))
      clear hb hown hib HW6 H6 hle hfull hn4 hn256
      by_cases hqm : (q : Int) < m
      · rw [if_pos hqm] at HCQ
        rw [HCQ.out] at hc7
        have hv0 : ((V q).toNat : Int) = V q := by have := HVV.out q; omega
        rw [hv0] at hc7
        obtain ⟨bi, oi, rfl, _, hci⟩ := HR7.out (by omega)
        have hci' : w7.cell? ⟨bi, oi + q, none⟩ = some (.int .u8 (V q)) := hci q (by omega)
        clear hci hv0
        go_wp2_with fail
        go_ret
        exact ⟨ret_bool (by simp), HW7.out⟩
      · rw [if_neg hqm] at HCQ
        rw [HCQ.out] at hc7
        go_wp2_with fail
        go_ret
        exact ⟨ret_bool (by simp), HW7.out⟩
theorem rom_loads_walk (w : World) (a0 : Int) (w0 : (Lit.int .i64 a0).wf = true)
    (a1 : Option Addr) (len1 cap1 : Nat) (z1 : Nat → Int) (b1 : ∀ i, (Lit.int .u8 (z1 i)).wf = true) (w1 : ArgRow w a1 len1 cap1 (fun i => .int .u8 (z1 i))) (m1 : cap1 * 1 ≤ 140737488351232)
    (a2 : Int) (w2 : (Lit.int .u64 a2).wf = true) :
    Calls Try.prog 9 #[.int .i64 a0, .slice a1 len1 cap1, .int .u64 a2] w fun e w' => e = .returned (.bool true) ∧ Below w.heap.size w w' := by
  have e1 := w1.le
  exact rom_loads w a0 a1 len1 cap1 z1 (by omega) w1.nil e1 (w1.row.le e1) (argB w1 b1 e1) (fun i => wf_u8' (b1 i)) a2 (wf_u64' w2).1 (wf_i64' w0)
end Go.Proofs.Ytebdbbpefmgooaa
