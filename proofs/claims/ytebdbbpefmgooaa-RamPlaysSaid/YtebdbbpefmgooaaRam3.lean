/- Contracts of ram.New, Pages, Read. No condition. -/
import Derived.Test.YtebdbbpefmgooaaRam2
import Derived.Test.YtebdbbpefmgooaaRom
import Derived.StillTailTactics
import Derived.BigRegion
import Derived.Deep.RegionWith
import Derived.Deep.RegionHeld3
import Derived.Deep.QuietTactic
import Derived.BigQuiet
import Derived.Deep.LoopGhost
import Derived.Deep.DeepCutAuto
import Derived.Deep.DeepFit
import Derived.Deep.DeepMust
import Derived.Handy
set_option linter.unusedVariables false
set_option linter.unusedSimpArgs false
namespace Go.Proofs.Ytebdbbpefmgooaa
open Go.RowKit
/-- the same at RamAt -/
theorem ram_all_at {w : World} {b n : Nat} {ct : Nat → Nat} {S : Nat → Prop} (h : RamAt w b n ct S) (x : Int) (x0 : 0 ≤ x) (x1 : x < 18446744073709551616) (k : Int) (k0 : 0 ≤ k) (k1 : k < 9223372036854775808) :
    Calls Try.prog 60 #[.pointer (some ⟨b, 0, none⟩), .int .u64 x, .int .i64 k] w fun e w' => e = .returned (.bool (ramAll n x k)) ∧ Below w.heap.size w w' := by
  obtain ⟨m, pg, h, rfl⟩ := h
  exact ram_all h x x0 x1 k k0 k1
theorem ram_get_at {w : World} {b n : Nat} {ct : Nat → Nat} {S : Nat → Prop} (h : RamAt w b n ct S) (x : Int) (x0 : 0 ≤ x) (x1 : x < 1048576) :
    Calls Try.prog 61 #[.pointer (some ⟨b, 0, none⟩), .int .i64 x] w fun e w' => e = .returned (.int .u8 (ct x.toNat)) ∧ w = w' := by
  obtain ⟨m, pg, h, rfl⟩ := h
  exact ram_get h x x0 x1
theorem ram_set_at {w : World} {b n : Nat} {ct : Nat → Nat} {S : Nat → Prop} (h : RamAt w b n ct S) (x : Int) (x0 : 0 ≤ x) (x1 : x < 1048576) (v : Nat) (hv : v < 256) :
    Calls Try.prog 65 #[.pointer (some ⟨b, 0, none⟩), .int .i64 x, .int .u8 v] w fun e w' => e = .returned (.tuple #[]) ∧ RamTo w w' b n (updB ct x.toNat v) S := by
  obtain ⟨m, pg, h, rfl⟩ := h
  exact ram_set h x x0 x1 v hv
theorem RamAt.lo {w : World} {b n : Nat} {ct : Nat → Nat} {S : Nat → Prop} (h : RamAt w b n ct S) : 4 ≤ n ∧ n ≤ 256 := by
  obtain ⟨m, pg, h, rfl⟩ := h
  exact ⟨h.lo, h.hi⟩
theorem RamAt.bd {w : World} {b n : Nat} {ct : Nat → Nat} {S : Nat → Prop} (h : RamAt w b n ct S) (i : Nat) : ct i < 256 := by
  obtain ⟨m, pg, h, rfl⟩ := h
  exact h.bd i
theorem RamAt.at0 {w : World} {b n : Nat} {ct : Nat → Nat} {S : Nat → Prop} (h : RamAt w b n ct S) : w.cell? ⟨b, 0, none⟩ = some (.int .i64 n) := by
  obtain ⟨m, pg, h, rfl⟩ := h
  exact blk_cell h.at_ 0
theorem RamAt.drew {w : World} {b n : Nat} {ct : Nat → Nat} {S : Nat → Prop} (h : RamAt w b n ct S) : RamAt w.drew b n ct S := h.below (Below.refl _ _).drew
/-- the bytes from there on -/
def bytesAt (ct : Nat → Nat) (off k : Nat) : List Int := (List.range k).map fun i => (ct (off + i) : Int)
theorem bytesAt_len (ct : Nat → Nat) (off k : Nat) : (bytesAt ct off k).length = k := by simp [bytesAt]
theorem bytesAt_snoc (ct : Nat → Nat) (off k : Nat) : bytesAt ct off (k + 1) = bytesAt ct off k ++ [(ct (off + k) : Int)] := by simp [bytesAt, List.range_succ]
theorem bytesAt_bd {ct : Nat → Nat} (h : ∀ i, ct i < 256) (off k : Nat) : ∀ x ∈ bytesAt ct off k, 0 ≤ x ∧ x ≤ 255 := by
  intro x hx
  simp only [bytesAt, List.mem_map] at hx
  obtain ⟨i, _, rfl⟩ := hx
  have := h (off + i)
  omega
theorem bytesAt_getD (ct : Nat → Nat) (off k i : Nat) (h : i < k) : (bytesAt ct off k).getD i 0 = (ct (off + i) : Int) := by simp [bytesAt, List.getD, h]
/-- no bytes, and that error -/
def NoBytes (w : World) (k : Int) (e : Ending) (w' : World) : Prop := e = .returned (.tuple #[.slice none 0 0, .int .i64 k]) ∧ Below w.heap.size w w'
/-- those bytes in a slice of their own, no error -/
def OwnBytes (w : World) (n : Nat) (l : List Int) (e : Ending) (w' : World) : Prop := ∃ v, e = .returned (.tuple #[v, .int .i64 0]) ∧ w'.ownsRow w.heap.size 5 1 v n (l.map (Value.int .u8)) ∧ Below w.heap.size w w'
set_option maxRecDepth 100000 in
set_option maxHeartbeats 1000000 in
theorem ram_read_nil (x k : Int) (w : World) : Calls Try.prog 39 #[.pointer none, .int .u64 x, .int .i64 k] w (NoBytes w 2) := by
  have hB := Lib.hid (Below.refl w.heap.size w)
  go_enter Try.func39, Try.ntmps39
  go_wp2
  go_ret2
  exact ⟨rfl, hB.out⟩
set_option maxRecDepth 100000 in
set_option maxHeartbeats 1000000 in
theorem ram_read_neg (b : Nat) (x k : Int) (hk : k < 0) (w : World) : Calls Try.prog 39 #[.pointer (some ⟨b, 0, none⟩), .int .u64 x, .int .i64 k] w (NoBytes w 1) := by
  have hB := Lib.hid (Below.refl w.heap.size w)
  go_enter Try.func39, Try.ntmps39
  go_wp2
  go_ret2
  exact ⟨rfl, hB.out⟩
set_option maxRecDepth 100000 in
set_option maxHeartbeats 1000000 in
theorem ram_read_bus {w : World} {b n : Nat} {ct : Nat → Nat} {S : Nat → Prop} (h : RamAt w b n ct S) (x : Int) (x0 : 0 ≤ x) (x1 : x < 18446744073709551616) (k : Int) (k0 : 0 ≤ k) (k1 : k < 9223372036854775808) (ha : ramAll n x k = false) :
    Calls Try.prog 39 #[.pointer (some ⟨b, 0, none⟩), .int .u64 x, .int .i64 k] w (NoBytes w 6) := by
  have HA := Lib.hid (ram_all_at h x x0 x1 k k0 k1)
  rw [ha] at HA
  clear h ha x0 x1
  go_enter Try.func39, Try.ntmps39
  go_wp2_with fail
  refine HA.out.mono ?_
  rintro e w1 ⟨rfl, hb⟩
  have HB := Lib.hid hb
  clear hb
  go_wp2
  go_ret2
  exact ⟨rfl, HB.out⟩
set_option maxRecDepth 100000 in
set_option maxHeartbeats 2000000 in
theorem ram_read_ok {w : World} {b n : Nat} {ct : Nat → Nat} {S : Nat → Prop} (h : RamAt w b n ct S) (x : Int) (x0 : 0 ≤ x) (x1 : x < 18446744073709551616) (k : Nat) (ha : ramAll n x k = true) :
    Calls Try.prog 39 #[.pointer (some ⟨b, 0, none⟩), .int .u64 x, .int .i64 k] w (OwnBytes w k (bytesAt ct (x - 2147483648).toNat k)) := by
  have hlo := h.lo
  have hx : k = 0 ∨ (2147483648 ≤ x ∧ x - 2147483648 + k ≤ n * 4096) := by
    simp only [ramAll, isRam, Bool.or_eq_true, Bool.and_eq_true, decide_eq_true_eq] at ha
    omega
  have hk : (k : Int) ≤ 1048576 := by omega
  have HA := Lib.hid (ram_all_at h x x0 x1 k (by omega) (by omega))
  rw [ha] at HA
  have H := Lib.hid h
  have HX := Lib.hid hx
  have hn : (n : Int) ≤ 256 := by omega
  have HB0 := Lib.hid (bytesAt_snoc ct (x - 2147483648).toNat)
  have HL := Lib.hid (show bytesAt ct (x - 2147483648).toNat 0 = [] from rfl)
  clear h ha hx hlo
  generalize hO : (x - 2147483648).toNat = O at *
  have HO := Lib.hid hO
  clear hO
  go_enter Try.func39, Try.ntmps39
  go_wp2_with fail
  refine HA.out.mono ?_
  rintro e w1 ⟨rfl, hb⟩
  have HB := Lib.hid hb
  clear hb
  go_wp2_with fail
  go_loopw [8, 23] (fun v i wr => ∃ j : Nat, j ≤ k ∧ i = .int .i64 j ∧ wr.ownsRow w.heap.size 5 1 v j ((bytesAt ct O j).map (Value.int .u8)) ∧ Below w.heap.size w wr) (fun _ i _ => k - (intOf i).toNat)
  case atStart => exact ⟨0, by omega, rfl, by rw [HL.out]; exact World.ownsRow_nil _ _ _ _, HB.out⟩
  case round =>
    clear HB
    obtain ⟨j, hj, rfl, hown, hb⟩ := hrel
    have HW := Lib.hid hown
    have HBB := Lib.hid hb
    clear hown hb
    by_cases hlt : j < k
    · have hxx := HX.out
      have hp : IntKind.u64.wrap (x - 2147483648) = x - 2147483648 := by rw [IntKind.wrap_u64]; omega
      have hjj : (j : Int) < k := by omega
      have g0 : 0 ≤ x - 2147483648 := by omega
      have g1 : x - 2147483648 + j < 1048576 := by omega
      have HR := Lib.hid (H.out.below HBB.out)
      clear hxx hlt hj
      go_wp2_with fail
      refine (ram_get_at HR.out _ (by omega) (by omega)).mono ?_
      rintro e w2 ⟨rfl, rfl⟩
      have HO2 : Hid ((x - 2147483648 + (j : Int)).toNat = O + j) := by have := HO.out; show _ = _; omega
      rw [HO2.out]
      have hone : Hid (∀ u ∈ [Value.int .u8 (ct (O + j))], u.oneCell' = true) := by intro u hu; simp at hu; subst hu; rfl
      have hz : Hid (w.heap.size ≤ (wr.alloc (.cells #[Value.int .u8 (ct (O + j))] 5)).heap.size) := by have := HBB.out.size; show _ ≤ _; simp; omega
      go_wp2_with (at_builtin; refine wpList_app rfl _ _ 23 rfl w.heap.size 5 (.int .u8 0) 1 Try.underlying23 A_info5 rfl _ j _ rfl (HW.out.alloc _) _ _ _ [Value.int .u8 (ct (O + j))] rfl (src_one wr _ 5) hone.out (by omega) (by unfold maxLen; omega) hz.out ?_; intro v' w2 hown hg _; have HW2 := Lib.hid hown; have HG := Lib.hid hg; clear hown hg)
      all_goals
        refine ⟨⟨j + 1, by omega, by rw [Int.natCast_succ], ?_, ?_⟩, by simp [intOf]; omega⟩
        · rw [HB0.out, List.map_append]; exact HW2.out
        · exact own_base (HW.out.alloc _) HG.out (HBB.out.alloc HBB.out.size _) hz.out (Nat.le_refl _)
    · obtain rfl : j = k := by omega
      go_wp2
      go_ret2
      exact ⟨_, rfl, HW.out, HBB.out⟩
set_option maxRecDepth 100000 in
set_option maxHeartbeats 1000000 in
theorem ram_pages {w : World} {b n : Nat} {ct : Nat → Nat} {S : Nat → Prop} (h : RamAt w b n ct S) : Calls Try.prog 38 #[.pointer (some ⟨b, 0, none⟩)] w fun e w' => e = .returned (.int .i64 n) ∧ w = w' := by
  have c := h.at0
  clear h
  go_enter Try.func38, Try.ntmps38
  go_wp2
  go_ret
  exact ⟨rfl, rfl⟩
set_option maxRecDepth 100000 in
set_option maxHeartbeats 1000000 in
theorem ram_pages_nil (w : World) : Calls Try.prog 38 #[.pointer none] w fun e w' => e = .returned (.int .i64 0) ∧ w = w' := by
  go_enter Try.func38, Try.ntmps38
  go_wp2
  go_ret
  exact ⟨rfl, rfl⟩
end Go.Proofs.Ytebdbbpefmgooaa
