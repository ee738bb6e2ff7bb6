/- Contracts of the functions of the ROM and of its law: what each call answers and leaves. No condition. -/
import Derived.Test.YtebdbbpefmgooaaRom2
import Derived.Deep.RegionWith
import Derived.Deep.LoopGhost
import Derived.Deep.DeepCutAuto
import Derived.Deep.DeepFit
import Derived.Deep.DeepMust
set_option linter.unusedVariables false
set_option linter.unusedSimpArgs false
namespace Go.Proofs.Ytebdbbpefmgooaa
open Go.RowKit
set_option maxRecDepth 100000 in
set_option maxHeartbeats 1000000 in
theorem ref_read (off n : Nat) (h : off + n ≤ 4096) (w : World) :
    Calls Try.prog 17 #[.int .u64 off, .int .i64 n] w (BytesOk w n (romL off n)) := by
  have h1 : (off : Int) ≤ 4096 := by omega
  have h2 : (n : Int) ≤ 4096 - off := by omega
  have H := Lib.hid h; clear h
  go_enter Try.func17, Try.ntmps17
  go_wp2
  go_loopw [6, 7] (fun v i wr => ∃ k : Nat, k ≤ n ∧ i = .int .i64 k ∧ wr.ownsRow w.heap.size 5 1 v k ((romL off k).map (Value.int .u8)) ∧ Below w.heap.size w wr) (fun _ i _ => n - (intOf i).toNat)
  case atStart => exact ⟨0, by omega, rfl, World.ownsRow_nil _ _ _ _, Below.refl _ _⟩
  case round =>
    obtain ⟨k, hk, rfl, hown, hb⟩ := hrel
    by_cases hlt : k < n
    · have HO := Lib.hid hown; have HB := Lib.hid hb; clear hown hb
      go_wp2_with fail
      refine (ref_at _ (by omega) _).mono ?_
      rintro e w1 ⟨rfl, hb1⟩
      have HO1 : Hid (w1.ownsRow w.heap.size 5 1 u6 k ((romL off k).map (Value.int .u8))) := own_below HO.out hb1
      have HB1 : Hid (Below w.heap.size w w1) := below_then HB.out hb1 HB.out.size
      clear hb1 HO HB
      have hby : Hid ((k + 1) * 1 ≤ 140737488355328) := by have := H.out; show _ ≤ _; omega
      have h63 : Hid (k + 1 ≤ maxLen) := by have := H.out; show _ ≤ _; unfold maxLen; omega
      have hba : Hid (w.heap.size ≤ (w1.alloc (.cells #[.int .u8 (romAt ((off : Int) + k).toNat)] 5)).heap.size) := Nat.le_trans HB1.out.size (by simp)
      go_wp2_with (at_builtin; refine wpList_app rfl _ _ 23 rfl w.heap.size 5 (.int .u8 0) 1 Try.underlying23 A_info5 rfl u6 k _ rfl (HO1.out.alloc _) _ 1 1 [.int .u8 (romAt ((off : Int) + k).toNat)] rfl (src_one _ _ _) (by intro u hu; simp at hu; subst hu; rfl) hby.out h63.out hba.out ?_; intro v' w2 hown hg _)
      have HO2 : Hid (w2.ownsRow w.heap.size 5 1 v' (k + 1) ((romL off (k + 1)).map (Value.int .u8))) := by
        rw [romL_snoc, List.map_append]; rw [show ((off : Int) + k).toNat = off + k by omega] at hown; exact hown
      have HB2 : Hid (Below w.heap.size w w2) := own_base (HO1.out.alloc _) hg (HB1.out.alloc HB1.out.size _) hba.out (Nat.le_refl _)
      clear hown hg
      go_wp2
      go_roundw
      case rel => exact ⟨k + 1, by omega, by go_num, HO2.out, HB2.out⟩
      case measure => simp [intOf]; omega
    · obtain rfl : k = n := by omega
      have HO : BytesOk w k (romL off k) (.returned (.tuple #[u6, .int .i64 0])) wr := by
        obtain ⟨a, c, rfl, hb'⟩ := bytes_own hown (romL_bd off k)
        exact ⟨a, c, rfl, hb', hb⟩
      have HO := Lib.hid HO; clear hown hb
      go_wp2
      go_ret2
      exact HO.out
end Go.Proofs.Ytebdbbpefmgooaa
