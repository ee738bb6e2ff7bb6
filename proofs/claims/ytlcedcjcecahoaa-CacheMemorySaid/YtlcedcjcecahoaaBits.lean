/- Contracts of bits.Word, Bytes, Aligned. No condition. -/
import Derived.Test.YtlcedcjcecahoaaBase
import Derived.StillTailTactics
import Derived.BigRegion
import Derived.Deep.RegionWith
import Derived.Deep.RegionHeld3
import Derived.Deep.QuietTactic
import Derived.BigQuiet
import Derived.Deep.LoopGhost
import Derived.Deep.DeepCutAuto
import Derived.Deep.DeepFit
import Derived.Deep.DeepMust
import Derived.Handy
set_option linter.unusedVariables false
set_option linter.unusedSimpArgs false
namespace Go.Proofs.Ytlcedcjcecahoaa
open Go.RowKit
/-- the number of which these are the bytes, the lowest first -/
def wordN (f : Nat → Nat) : Nat → Nat
  | 0 => 0
  | k + 1 => wordN f k + f k * 2 ^ (8 * k)
theorem wordN_lt {f : Nat → Nat} (h : ∀ i, f i < 256) : ∀ k, wordN f k < 2 ^ (8 * k)
  | 0 => by simp [wordN]
  | k + 1 => by
    have h1 := wordN_lt h k
    have h2 := h k
    have e : 2 ^ (8 * (k + 1)) = 256 * 2 ^ (8 * k) := by rw [show 8 * (k + 1) = 8 * k + 8 by omega, Nat.pow_add]; omega
    unfold wordN
    rw [e]
    have : f k * 2 ^ (8 * k) ≤ 255 * 2 ^ (8 * k) := Nat.mul_le_mul_right _ (by omega)
    omega
theorem wordN_congr {f g : Nat → Nat} : ∀ (k : Nat), (∀ i, i < k → f i = g i) → wordN f k = wordN g k
  | 0, _ => rfl
  | k + 1, h => by unfold wordN; rw [wordN_congr k (fun i hi => h i (by omega)), h k (by omega)]
theorem word_or {f : Nat → Nat} (h : ∀ i, f i < 256) {k : Nat} (hk : k < 8) : Value.int .u64 (bits .or .u64 (wordN f k : Nat) (IntKind.u64.wrap (IntKind.u64.wrap (f k : Int) * 2 ^ (8 * k)))) = .int .u64 (wordN f (k + 1) : Nat) := by
  have h1 := wordN_lt h k
  have h2 := wordN_lt h (k + 1)
  have h3 : (2 : Nat) ^ (8 * (k + 1)) ≤ 2 ^ 64 := Nat.pow_le_pow_right (by omega) (by omega)
  have e0 : IntKind.u64.wrap (f k : Int) = f k := by have := h k; rw [IntKind.wrap_u64]; omega
  have e : ((f k : Int) * 2 ^ (8 * k)) = ((f k * 2 ^ (8 * k) : Nat) : Int) := by rw [Int.natCast_mul, Int.natCast_pow]; rfl
  have e3 : wordN f (k + 1) = wordN f k + f k * 2 ^ (8 * k) := rfl
  have e4 : wordN f k + f k * 2 ^ (8 * k) = wordN f k ||| f k * 2 ^ (8 * k) := by rw [Nat.or_comm, Nat.mul_comm, ← Nat.two_pow_add_eq_or_of_lt h1, Nat.add_comm]
  rw [e0, e]
  rw [e3] at h2
  rw [e3, e4]
  rw [e4] at h2
  generalize f k * 2 ^ (8 * k) = A at *
  generalize wordN f k = B at *
  have hA : A < 18446744073709551616 := by omega
  have hB : B < 18446744073709551616 := by omega
  rw [IntKind.wrap_u64, Int.emod_eq_of_lt (by omega) (by omega), u64_or_nat _ _ hB hA]
set_option maxRecDepth 100000 in
set_option maxHeartbeats 2000000 in
theorem bits_word_le (a : Option Addr) (m c : Nat) (l : List Int) (w : World) (hb : IsB w a m l) (hm : (m : Int) ≤ 9223372036854775807) (h8 : (m : Int) ≤ 8) :
    Calls Try.prog 27 #[.slice a m c] w fun e w' => e = .returned (.int .u64 (wordN (fun i => (l.getD i 0).toNat) m : Nat)) ∧ w = w' := by
  have H := Lib.hid hb
  have H255 := Lib.hid (show ∀ i, (l.getD i 0).toNat < 256 from fun i => by
    by_cases hi : i < l.length
    · have := hb.bd (l.getD i 0) (by simp [List.getD, hi])
      omega
    · simp [List.getD, hi])
  clear hb
  generalize hf : (fun i => (l.getD i 0).toNat) = f
  have HF := Lib.hid hf
  have HLT := Lib.hid (show ∀ i, f i < 256 from fun i => by rw [← hf]; exact H255.out i)
  clear hf
  go_enter Try.func27, Try.ntmps27
  go_wp2_with fail
  go_loop [3, 8] (fun v i => ∃ k : Nat, (k : Int) ≤ m ∧ i = .int .i64 k ∧ v = .int .u64 (wordN f k : Nat)) (fun _ i => m - (intOf i).toNat)
  case atStart => exact ⟨0, by omega, rfl, rfl⟩
  case round =>
    obtain ⟨k, hk, rfl, rfl⟩ := hrel
    by_cases hlt : (k : Int) < m
    · have h1 : (k : Int) < m := by omega
      have h2 : (k : Int) < 8 := by omega
      clear hk
      obtain ⟨b, o, rfl, hc⟩ : ∃ b o, a = some ⟨b, o, none⟩ ∧ w.cell? ⟨b, o + k, none⟩ = some (.int .u8 (f k : Nat)) := by
        rcases H.out.cell with ⟨_, h0⟩ | ⟨b, o, rfl, h⟩
        · omega
        · refine ⟨b, o, rfl, (h k (by omega)).trans ?_⟩
          have : 0 ≤ l.getD k 0 := by
            by_cases hkl : k < l.length
            · have := H.out.bd (l.getD k 0) (by simp [List.getD, hkl])
              omega
            · simp [List.getD, hkl]
          rw [← HF.out]
          simp only
          rw [Int.toNat_of_nonneg this]
      have hor := word_or (k := k) HLT.out (by omega)
      have HO := Lib.hid hor
      clear hor
      go_wp2_with fail
      exact ⟨⟨k + 1, by omega, by rw [Int.natCast_succ], HO.out⟩, by simp [intOf]; omega⟩
    · obtain rfl : k = m := by omega
      go_wp2_with fail
      go_ret
      exact ⟨rfl, rfl⟩
set_option maxRecDepth 100000 in
set_option maxHeartbeats 2000000 in
theorem bits_word_gt (a : Option Addr) (m c : Nat) (l : List Int) (w : World) (hb : IsB w a m l) (hm : (m : Int) ≤ 9223372036854775807) (h8 : (8 : Int) < m) :
    Calls Try.prog 27 #[.slice a m c] w fun e w' => e = .returned (.int .u64 (wordN (fun i => (l.getD i 0).toNat) 8 : Nat)) ∧ w = w' := by
  have H := Lib.hid hb
  have H255 := Lib.hid (show ∀ i, (l.getD i 0).toNat < 256 from fun i => by
    by_cases hi : i < l.length
    · have := hb.bd (l.getD i 0) (by simp [List.getD, hi])
      omega
    · simp [List.getD, hi])
  clear hb
  generalize hf : (fun i => (l.getD i 0).toNat) = f
  have HF := Lib.hid hf
  have HLT := Lib.hid (show ∀ i, f i < 256 from fun i => by rw [← hf]; exact H255.out i)
  clear hf
  go_enter Try.func27, Try.ntmps27
  go_wp2_with fail
  go_loop [3, 8] (fun v i => ∃ k : Nat, (k : Int) ≤ 8 ∧ i = .int .i64 k ∧ v = .int .u64 (wordN f k : Nat)) (fun _ i => 8 - (intOf i).toNat)
  case atStart => exact ⟨0, by omega, rfl, rfl⟩
  case round =>
    obtain ⟨k, hk, rfl, rfl⟩ := hrel
    by_cases hlt : (k : Int) < 8
    · have h1 : (k : Int) < m := by omega
      have h2 : (k : Int) < 8 := by omega
      clear hk
      obtain ⟨b, o, rfl, hc⟩ : ∃ b o, a = some ⟨b, o, none⟩ ∧ w.cell? ⟨b, o + k, none⟩ = some (.int .u8 (f k : Nat)) := by
        rcases H.out.cell with ⟨_, h0⟩ | ⟨b, o, rfl, h⟩
        · omega
        · refine ⟨b, o, rfl, (h k (by omega)).trans ?_⟩
          have : 0 ≤ l.getD k 0 := by
            by_cases hkl : k < l.length
            · have := H.out.bd (l.getD k 0) (by simp [List.getD, hkl])
              omega
            · simp [List.getD, hkl]
          rw [← HF.out]
          simp only
          rw [Int.toNat_of_nonneg this]
      have hor := word_or (k := k) HLT.out (by omega)
      have HO := Lib.hid hor
      clear hor
      go_wp2_with fail
      exact ⟨⟨k + 1, by omega, by rw [Int.natCast_succ], HO.out⟩, by simp [intOf]; omega⟩
    · obtain rfl : k = 8 := by omega
      go_wp2_with fail
      go_ret
      exact ⟨rfl, rfl⟩
theorem bits_word (a : Option Addr) (m c : Nat) (l : List Int) (w : World) (hb : IsB w a m l) (hm : (m : Int) ≤ 9223372036854775807) :
    Calls Try.prog 27 #[.slice a m c] w fun e w' => e = .returned (.int .u64 (wordN (fun i => (l.getD i 0).toNat) (min m 8) : Nat)) ∧ w = w' := by
  by_cases h8 : (m : Int) ≤ 8
  · rw [show min m 8 = m by omega]; exact bits_word_le a m c l w hb hm h8
  · rw [show min m 8 = 8 by omega]; exact bits_word_gt a m c l w hb hm (by omega)
set_option maxRecDepth 100000 in
set_option maxHeartbeats 1000000 in
theorem bits_aligned (x : Int) (x0 : 0 ≤ x) (n : Nat) (h1 : 1 ≤ n) (h2 : (n : Int) ≤ 9223372036854775807) (w : World) :
    Calls Try.prog 47 #[.int .u64 x, .int .i64 n] w fun e w' => e = .returned (.bool (decide (x % n = 0))) ∧ w = w' := by
  have h3 : (1 : Int) ≤ n := by omega
  have hw : IntKind.u64.wrap (n : Int) = n := by rw [IntKind.wrap_u64]; omega
  go_enter Try.func47, Try.ntmps47
  go_wp2
  go_ret
  exact ⟨ret_bool (by first | rfl | simp), rfl⟩
/-- the bytes of a number, the lowest first -/
def numBytes (v k : Nat) : List Int := (List.range k).map fun i => ((v / 2 ^ (8 * i) % 256 : Nat) : Int)
theorem numBytes_snoc (v k : Nat) : numBytes v (k + 1) = numBytes v k ++ [((v / 2 ^ (8 * k) % 256 : Nat) : Int)] := by simp [numBytes, List.range_succ]
theorem numBytes_len (v k : Nat) : (numBytes v k).length = k := by simp [numBytes]
theorem numBytes_bd (v k : Nat) : ∀ x ∈ numBytes v k, 0 ≤ x ∧ x ≤ 255 := by
  intro x hx
  simp only [numBytes, List.mem_map] at hx
  obtain ⟨i, _, rfl⟩ := hx
  omega
/-- those bytes in a slice of their own -/
def OwnSlice (w : World) (n : Nat) (l : List Int) (e : Ending) (w' : World) : Prop := ∃ v, e = .returned v ∧ w'.ownsRow w.heap.size 5 1 v n (l.map (Value.int .u8)) ∧ Below w.heap.size w w'
set_option maxRecDepth 100000 in
set_option maxHeartbeats 2000000 in
theorem bits_bytes (v : Nat) (n : Nat) (hn : (n : Int) ≤ 8) (w : World) :
    Calls Try.prog 29 #[.int .u64 v, .int .i64 n] w (OwnSlice w n (numBytes v n)) := by
  have HB0 := Lib.hid (numBytes_snoc v)
  have HL := Lib.hid (show numBytes v 0 = [] from rfl)
  go_enter Try.func29, Try.ntmps29
  go_wp2_with fail
  go_loopw [5, 10] (fun s i wr => ∃ j : Nat, (j : Int) ≤ n ∧ i = .int .i64 j ∧ wr.ownsRow w.heap.size 5 1 s j ((numBytes v j).map (Value.int .u8)) ∧ Below w.heap.size w wr) (fun _ i _ => n - (intOf i).toNat)
  case atStart => exact ⟨0, by omega, rfl, by rw [HL.out]; exact World.ownsRow_nil _ _ _ _, Below.refl _ _⟩
  case round =>
    obtain ⟨j, hj, rfl, hown, hb⟩ := hrel
    have HW := Lib.hid hown
    have HBB := Lib.hid hb
    clear hown hb
    by_cases hlt : (j : Int) < n
    · clear hj
      have hj8 : (j : Int) < 8 := by omega
      have hb8 : IntKind.u8.wrap ((v : Int) / 2 ^ (8 * j)) = ((v / 2 ^ (8 * j) % 256 : Nat) : Int) := by
        rw [IntKind.wrap_u8, Int.natCast_emod, Int.natCast_ediv, Int.natCast_pow]; rfl
      have hz : Hid (w.heap.size ≤ (wr.alloc (.cells #[Value.int .u8 (v / 2 ^ (8 * j) % 256 : Nat)] 5)).heap.size) := by have := HBB.out.size; show _ ≤ _; simp; omega
      have hone : Hid (∀ u ∈ [Value.int .u8 (v / 2 ^ (8 * j) % 256 : Nat)], u.oneCell' = true) := by intro u hu; simp at hu; subst hu; rfl
      go_wp2_with (at_builtin; refine wpList_app rfl _ _ 34 rfl w.heap.size 5 (.int .u8 0) 1 Try.underlying34 A_info5 rfl _ j _ rfl (HW.out.alloc _) _ _ _ [Value.int .u8 (v / 2 ^ (8 * j) % 256 : Nat)] rfl (src_one wr _ 5) hone.out (by omega) (by unfold maxLen; omega) hz.out ?_; intro v' w2 hown hg _; have HW2 := Lib.hid hown; have HG := Lib.hid hg; clear hown hg)
      all_goals
        refine ⟨⟨j + 1, by omega, by rw [Int.natCast_succ], ?_, ?_⟩, by simp [intOf]; omega⟩
        · rw [HB0.out, List.map_append]; exact HW2.out
        · exact own_base (HW.out.alloc _) HG.out (HBB.out.alloc HBB.out.size _) hz.out (Nat.le_refl _)
    · obtain rfl : j = n := by omega
      go_wp2
      go_ret
      exact ⟨_, rfl, HW.out, HBB.out⟩
end Go.Proofs.Ytlcedcjcecahoaa
