/- The reference memory: Read, place, Word, Put. No condition. -/
import Derived.Test.YtebdbbpefmgooaaRefSome
import Derived.Test.YtebdbbpefmgooaaRefBits
import Derived.StillTailTactics
import Derived.BigRegion
import Derived.Deep.RegionWith
import Derived.Deep.RegionHeld3
import Derived.Deep.QuietTactic
import Derived.BigQuiet
import Derived.Deep.LoopGhost
import Derived.Deep.DeepCutAuto
import Derived.Deep.DeepFit
import Derived.Deep.DeepMust
import Derived.Handy
set_option linter.unusedVariables false
set_option linter.unusedSimpArgs false
namespace Go.Proofs.Ytebdbbpefmgooaa
open Go.RowKit
theorem wordN_shift (f : Nat → Nat) : ∀ k, wordN f (k + 1) = f 0 + 256 * wordN (fun t => f (t + 1)) k
  | 0 => by simp [wordN]
  | k + 1 => by
    have ih := wordN_shift f k
    have e : 2 ^ (8 * (k + 1)) = 256 * 2 ^ (8 * k) := by rw [show 8 * (k + 1) = 8 * k + 8 by omega, Nat.pow_add]; omega
    show wordN f (k + 1) + f (k + 1) * 2 ^ (8 * (k + 1)) = f 0 + 256 * (wordN (fun t => f (t + 1)) k + f (k + 1) * 2 ^ (8 * k))
    rw [ih, e, Nat.mul_add, Nat.mul_left_comm]
    omega
/-- the number of the bytes from j on -/
def topW (f : Nat → Nat) (m j : Nat) : Nat := wordN (fun t => f (j + t)) (m - j)
theorem topW_step (f : Nat → Nat) (m j : Nat) (h : j < m) : topW f m j = topW f m (j + 1) * 256 + f j := by
  unfold topW
  rw [show m - j = (m - (j + 1)) + 1 by omega, wordN_shift]
  have : (fun t => f (j + (t + 1))) = fun t => f (j + 1 + t) := by funext t; congr 1; omega
  rw [this, Nat.add_zero]
  omega
theorem topW_lt (f : Nat → Nat) (hf : ∀ i, f i < 256) (m j : Nat) : topW f m j < 2 ^ (8 * (m - j)) := wordN_lt (fun t => hf _) _
set_option maxRecDepth 100000 in
set_option maxHeartbeats 2000000 in
theorem ref_word (a : Option Addr) (m c : Nat) (l : List Int) (w : World) (hb : IsB w a m l) (hm : (m : Int) ≤ 8) :
    Calls Try.prog 84 #[.slice a m c] w fun e w' => e = .returned (.int .u64 (wordN (fun i => (l.getD i 0).toNat) m : Nat)) ∧ w = w' := by
  have H := Lib.hid hb
  have H255 := Lib.hid (show ∀ i, (l.getD i 0).toNat < 256 ∧ 0 ≤ l.getD i 0 from fun i => by
    by_cases hi : i < l.length
    · have := hb.bd (l.getD i 0) (by simp [List.getD, hi])
      omega
    · simp [List.getD, hi])
  clear hb
  obtain ⟨f, hf⟩ : ∃ f, (fun i => (l.getD i 0).toNat) = f := ⟨_, rfl⟩
  have HF := Lib.hid (show ∀ i, ((f i : Nat) : Int) = l.getD i 0 ∧ f i < 256 from fun i => by rw [← hf]; have := H255.out i; exact ⟨by simp only; omega, this.1⟩)
  rw [hf]
  have HS := Lib.hid (topW_step f m)
  have HLT := Lib.hid (topW_lt f (fun i => (HF.out i).2) m)
  have HM := Lib.hid (show topW f m m = 0 by unfold topW; rw [Nat.sub_self]; rfl)
  have H0 := Lib.hid (show topW f m 0 = wordN f m by unfold topW; simp)
  clear hf
  generalize topW f m = F at *
  generalize hW : wordN f m = W at *
  clear hW
  go_enter Try.func84, Try.ntmps84
  go_wp2_with fail
  go_loop [3, 4] (fun v i => ∃ j : Nat, (j : Int) ≤ m ∧ i = .int .i64 ((j : Int) - 1) ∧ v = .int .u64 (F j : Nat)) (fun _ i => (intOf i + 1).toNat)
  case atStart => exact ⟨m, by omega, rfl, by rw [HM.out]; rfl⟩
  case round =>
    obtain ⟨j, hj, rfl, rfl⟩ := hrel
    rcases j with _ | j
    · have e0 : ((0 : Nat) : Int) - 1 = -1 := by omega
      rw [e0]
      go_wp2_with fail
      go_ret
      exact ⟨ret_int (by rw [H0.out]), rfl⟩
    · have ej : ((j + 1 : Nat) : Int) - 1 = j := by omega
      rw [ej]
      have hj2 : (j : Int) < m := by omega
      have hj8 : (j : Int) < 8 := by omega
      obtain ⟨b, o, rfl, hc⟩ : ∃ b o, a = some ⟨b, o, none⟩ ∧ w.cell? ⟨b, o + j, none⟩ = some (.int .u8 (f j : Nat)) := by
        rcases H.out.cell with ⟨_, h0⟩ | ⟨b, o, rfl, h⟩
        · omega
        · exact ⟨b, o, rfl, (h j (by omega)).trans (by rw [(HF.out j).1])⟩
      have hlt := HLT.out (j + 1)
      have hp : (2 : Nat) ^ (8 * (m - (j + 1))) ≤ 2 ^ 56 := Nat.pow_le_pow_right (by omega) (by omega)
      have hF : (F (j + 1) : Int) < 72057594037927936 := by omega
      have h255 : (f j : Int) < 256 := by have := (HF.out j).2; omega
      have hw1 : IntKind.u64.wrap (f j : Int) = f j := by rw [IntKind.wrap_u64]; omega
      have HSJ := Lib.hid (HS.out j (by omega))
      clear hlt hp hj
      go_wp2_with fail
      exact ⟨⟨j, by omega, rfl, by rw [HSJ.out]; exact congrArg (Value.int .u64) (by omega)⟩, by simp [intOf]; try omega⟩
theorem RefRam.below {w w' : World} {B wb n : Nat} {v : Value} {c : Nat → Int × Int} {m : Nat} (h : RefRam w B wb n v c m) (hb : Below w.heap.size w w') : RefRam w' B wb n v c m :=
  ⟨blk_below hb (blk_lt h.at_) h.at_, own_below h.own hb, h.ge, h.bd, h.max⟩
theorem lkTo_bd {c : Nat → Int × Int} (y : Int) : ∀ m, (∀ i, i < m → 0 ≤ (c i).2 ∧ (c i).2 ≤ 255) → 0 ≤ lkTo c y m ∧ lkTo c y m ≤ 255
  | 0, _ => by simp [lkTo]
  | m + 1, h => by
    unfold lkTo
    split
    · exact h m (by omega)
    · exact lkTo_bd y m (fun i hi => h i (by omega))
/-- what is read from x on -/
def readR (f : Int → Int) (x : Int) (k : Nat) : List Int := (List.range k).map fun (i : Nat) => f (x + (i : Int))
theorem readR_snoc (f : Int → Int) (x : Int) (k : Nat) : readR f x (k + 1) = readR f x k ++ [f (x + k)] := by simp [readR, List.range_succ]
set_option maxRecDepth 100000 in
set_option maxHeartbeats 1000000 in
theorem refm_read_neg (wb : Nat) (x k : Int) (hk : k < 0) (w : World) : Calls Try.prog 71 #[.pointer (some ⟨wb, 0, none⟩), .int .u64 x, .int .i64 k] w (NoBytes w 1) := by
  have hB := Lib.hid (Below.refl w.heap.size w)
  go_enter Try.func71, Try.ntmps71
  go_wp2_with fail
  go_ret2
  exact ⟨rfl, hB.out⟩
set_option maxRecDepth 100000 in
set_option maxHeartbeats 1000000 in
theorem refm_read_bus {w : World} {B wb n : Nat} {v : Value} {c : Nat → Int × Int} {m : Nat} (h : RefRam w B wb n v c m) (n4 : (4 : Int) ≤ n) (n256 : (n : Int) ≤ 256) (x : Int) (x0 : 0 ≤ x) (x1 : x < 18446744073709551616) (k : Int) (k0 : 0 ≤ k) (k1 : k < 9223372036854775808) (ha : ramAll n x k = false) :
    Calls Try.prog 71 #[.pointer (some ⟨wb, 0, none⟩), .int .u64 x, .int .i64 k] w (NoBytes w 6) := by
  have HA := Lib.hid (refm_in h n4 n256 x x0 x1 k k0 k1)
  rw [ha] at HA
  have hB := Lib.hid (Below.refl w.heap.size w)
  clear h ha x0 x1
  go_enter Try.func71, Try.ntmps71
  go_wp2_with fail
  refine HA.out.mono ?_
  rintro e w1 ⟨rfl, rfl⟩
  go_wp2_with fail
  go_ret2
  exact ⟨rfl, hB.out⟩
set_option maxRecDepth 100000 in
set_option maxHeartbeats 2000000 in
theorem refm_read_ok {w : World} {B wb n : Nat} {v : Value} {c : Nat → Int × Int} {m : Nat} (h : RefRam w B wb n v c m) (n4 : (4 : Int) ≤ n) (n256 : (n : Int) ≤ 256) (x : Int) (x0 : 0 ≤ x) (x1 : x < 18446744073709551616) (k : Nat) (hk : (k : Int) ≤ 200) (ha : ramAll n x k = true) :
    Calls Try.prog 71 #[.pointer (some ⟨wb, 0, none⟩), .int .u64 x, .int .i64 k] w (OwnBytes w k (readR (fun y => lkTo c y m) x k)) := by
  have hx : k = 0 ∨ (2147483648 ≤ x ∧ x - 2147483648 + k ≤ n * 4096) := by
    simp only [ramAll, isRam, Bool.or_eq_true, Bool.and_eq_true, decide_eq_true_eq] at ha
    omega
  have HA := Lib.hid (refm_in h n4 n256 x x0 x1 k (by omega) (by omega))
  rw [ha] at HA
  have H := Lib.hid h
  have HX := Lib.hid hx
  have HB0 := Lib.hid (readR_snoc (fun y => lkTo c y m) x)
  have HL := Lib.hid (show readR (fun y => lkTo c y m) x 0 = [] from rfl)
  have HBR := Lib.hid (Below.refl w.heap.size w)
  clear h ha hx
  go_enter Try.func71, Try.ntmps71
  go_wp2_with fail
  refine HA.out.mono ?_
  rintro e w1 ⟨rfl, rfl⟩
  clear HA
  go_wp2_with fail
  go_loopw [8, 9] (fun s i wr => ∃ j : Nat, (j : Int) ≤ k ∧ i = .int .i64 j ∧ wr.ownsRow w.heap.size 5 1 s j ((readR (fun y => lkTo c y m) x j).map (Value.int .u8)) ∧ Below w.heap.size w wr) (fun _ i _ => k - (intOf i).toNat)
  case atStart => exact ⟨0, by omega, rfl, by rw [HL.out]; exact World.ownsRow_nil _ _ _ _, HBR.out⟩
  case round =>
    obtain ⟨j, hj, rfl, hown, hb⟩ := hrel
    have HW := Lib.hid hown
    have HBB := Lib.hid hb
    clear hown hb
    by_cases hlt : (j : Int) < k
    · clear hj
      have hxx := HX.out
      have g0 : 2147483648 ≤ x := by omega
      have g1 : x + j < 2148532225 := by omega
      have hw1 : IntKind.u64.wrap (j : Int) = j := by rw [IntKind.wrap_u64]; omega
      have hw2 : IntKind.u64.wrap (x + j) = x + j := by rw [IntKind.wrap_u64]; omega
      have HR := Lib.hid (H.out.below HBB.out)
      clear hxx
      go_wp2_with fail
      refine (refm_at HR.out (x + j)).mono ?_
      rintro e w2 ⟨rfl, rfl⟩
      have HBS := Lib.hid (HB0.out j)
      generalize lkTo c (x + j) m = q at *
      have hone : Hid (∀ u ∈ [Value.int .u8 q], u.oneCell' = true) := by intro u hu; simp at hu; subst hu; rfl
      have hz : Hid (w.heap.size ≤ (wr.alloc (.cells #[Value.int .u8 q] 5)).heap.size) := by have := HBB.out.size; show _ ≤ _; simp; omega
      go_wp2_with (at_builtin; refine wpList_app rfl _ _ 23 rfl w.heap.size 5 (.int .u8 0) 1 Try.underlying23 A_info5 rfl _ j _ rfl (HW.out.alloc _) _ _ _ [Value.int .u8 q] rfl (src_one wr _ 5) hone.out (by omega) (by unfold maxLen; omega) hz.out ?_; intro v' w2 hown hg _; have HW2 := Lib.hid hown; have HG := Lib.hid hg; clear hown hg)
      all_goals
        refine ⟨⟨j + 1, by omega, by rw [Int.natCast_succ], ?_, ?_⟩, by simp [intOf]; omega⟩
        · rw [HBS.out, List.map_append]; exact HW2.out
        · exact own_base (HW.out.alloc _) HG.out (HBB.out.alloc HBB.out.size _) hz.out (Nat.le_refl _)
    · obtain rfl : j = k := by omega
      go_wp2_with fail
      go_ret2
      exact ⟨_, rfl, HW.out, HBB.out⟩
end Go.Proofs.Ytebdbbpefmgooaa
