/- RamNil: the walk. No condition. -/
import Derived.Test.YtebdbbpefmgooaaRam6
import Derived.StillTailTactics
import Derived.BigRegion
import Derived.Deep.RegionWith
import Derived.Deep.RegionHeld3
import Derived.Deep.QuietTactic
import Derived.BigQuiet
import Derived.Deep.LoopGhost
import Derived.Deep.DeepCutAuto
import Derived.Deep.DeepFit
import Derived.Deep.DeepMust
import Derived.Handy
set_option linter.unusedVariables false
set_option linter.unusedSimpArgs false
namespace Go.Proofs.Ytebdbbpefmgooaa
open Go.RowKit
set_option maxRecDepth 100000 in
set_option maxHeartbeats 2000000 in
theorem ram_awake (w : World) : Calls Try.prog 41 #[] w fun e w' => e = .returned (.bool true) ∧ Below w.heap.size w w' := by
  go_enter Try.func41, Try.ntmps41
  go_wp2_with fail
  refine (ram_new 4 (by omega) (by omega) w).mono ?_
  rintro e w1 ⟨b, S, rfl, hat, hS, hb, hw⟩
  have H := Lib.hid hat
  have HW := Lib.hid hw
  have HS := Lib.hid hS
  clear hat hw hS hb
  go_wp2_with fail
  refine (ram_put_ok H.out 2147483656 (by omega) (by omega) 4 287454020 (by decide)).mono ?_
  rintro e w2 ⟨rfl, hto⟩
  obtain ⟨S', h2, ht, hsub⟩ := hto
  have HW2 : Hid (Below w.heap.size w w2) := HW.out.trans (ht.below HW.out.size HS.out)
  have H2 := Lib.hid h2
  clear ht hsub h2 HW H HS
  go_wp2_with fail
  refine (ram_word_ok H2.out 2147483656 (by omega) (by omega) 1 (by decide)).mono ?_
  rintro e w3 ⟨rfl, hb⟩
  have HW3 : Hid (Below w.heap.size w w3) := below_then HW2.out hb HW2.out.size
  rw [show wordAt (putWord (fun _ => 0) ((2147483656 : Int) - 2147483648).toNat (4 : Int).toNat 287454020) ((2147483656 : Int) - 2147483648).toNat (1 : Int).toNat = 68 from by decide +kernel]
  clear hb
  go_wp2_with fail
  go_ret
  exact ⟨rfl, HW3.out⟩
set_option maxRecDepth 100000 in
set_option maxHeartbeats 1000000 in
theorem ram_fork_nil (w : World) : Calls Try.prog 49 #[.pointer none] w fun e w' => e = .returned (.pointer none) ∧ w = w' := by
  go_enter Try.func49, Try.ntmps49
  go_wp2_with fail
  go_ret
  exact ⟨rfl, rfl⟩
set_option maxRecDepth 100000 in
set_option maxHeartbeats 1000000 in
theorem ram_same_nn (w : World) : Calls Try.prog 50 #[.pointer none, .pointer none] w fun e w' => e = .returned (.bool true) ∧ w = w' := by
  go_enter Try.func50, Try.ntmps50
  go_wp2_with fail
  go_ret
  exact ⟨rfl, rfl⟩
set_option maxRecDepth 100000 in
set_option maxHeartbeats 1000000 in
theorem ram_same_np (b : Nat) (w : World) : Calls Try.prog 50 #[.pointer none, .pointer (some ⟨b, 0, none⟩)] w fun e w' => e = .returned (.bool false) ∧ w = w' := by
  go_enter Try.func50, Try.ntmps50
  go_wp2_with fail
  go_ret
  exact ⟨rfl, rfl⟩
set_option maxRecDepth 100000 in
set_option maxHeartbeats 1000000 in
theorem ram_same_pn (b : Nat) (w : World) : Calls Try.prog 50 #[.pointer (some ⟨b, 0, none⟩), .pointer none] w fun e w' => e = .returned (.bool false) ∧ w = w' := by
  go_enter Try.func50, Try.ntmps50
  go_wp2_with fail
  go_ret
  exact ⟨rfl, rfl⟩
set_option maxRecDepth 100000 in
set_option maxHeartbeats 2000000 in
theorem ram_nil_walk (w : World) (a0 : Int) (w0 : (Lit.int .u64 a0).wf = true) (a1 : Int) (w1 : (Lit.int .i64 a1).wf = true)
    (a2 : Option Addr) (len2 cap2 : Nat) (z2 : Nat → Int) (b2 : ∀ i, (Lit.int .u8 (z2 i)).wf = true) (w2 : ArgRow w a2 len2 cap2 (fun i => .int .u8 (z2 i))) (m2 : cap2 * 1 ≤ 140737488351232)
    (a3 : Option Addr) (len3 cap3 : Nat) (z3 : Nat → Bool) (w3 : ArgRow w a3 len3 cap3 (fun i => .bool (z3 i))) (m3 : cap3 * 1 ≤ 140737488351232) (a4 : Int) (w4 : (Lit.int .u64 a4).wf = true) :
    Calls Try.prog 14 #[.int .u64 a0, .int .i64 a1, .slice a2 len2 cap2, .slice a3 len3 cap3, .int .u64 a4] w fun e w' => e = .returned (.bool true) ∧ Below w.heap.size w w' := by
  have hm : (len2 : Int) ≤ 140737488355328 := by have := w2.le; omega
  clear w0 w1 b2 w2 m2 w3 m3 w4
  go_enter Try.func14, Try.ntmps14
  go_wp2_with fail
  refine (ram_read_nil a0 a1 _).mono ?_
  rintro e x1 ⟨rfl, hb⟩
  have H1 : Hid (Below w.heap.size w x1) := hb
  clear hb
  go_wp2_with fail
  refine (ram_word_nil a0 a1 _).mono ?_
  rintro e x2 ⟨rfl, hb⟩
  have H2 : Hid (Below w.heap.size w x2) := below_then H1.out hb H1.out.size
  clear hb H1
  go_wp2_with fail
  refine (ram_new 4 (by omega) (by omega) _).mono ?_
  rintro e x3 ⟨b, S, rfl, hat, hS, hb0, hb⟩
  have H3 : Hid (Below w.heap.size w x3) := below_then H2.out hb H2.out.size
  clear hb H2 hat hS hb0
  go_wp2_with fail
  refine (ram_awake _).mono ?_
  rintro e x4 ⟨rfl, hb⟩
  have H4 : Hid (Below w.heap.size w x4) := below_then H3.out hb H3.out.size
  clear hb H3
  go_wp2_with fail
  refine (ram_write_nil a0 a2 len2 cap2 hm _).mono ?_
  rintro e x5 ⟨rfl, hb⟩
  have H5 : Hid (Below w.heap.size w x5) := below_then H4.out hb H4.out.size
  clear hb H4
  go_wp2_with fail
  refine (ram_some_nil a0 a2 a3 len2 cap2 len3 cap3 _).mono ?_
  rintro e x6 ⟨rfl, hb⟩
  have H6 : Hid (Below w.heap.size w x6) := below_then H5.out hb H5.out.size
  clear hb H5
  go_wp2_with fail
  refine (ram_put_nil a0 a1 a4 _).mono ?_
  rintro e x7 ⟨rfl, hb⟩
  have H7 : Hid (Below w.heap.size w x7) := below_then H6.out hb H6.out.size
  clear hb H6
  go_wp2_with fail
  refine (ram_pages_nil _).mono ?_
  rintro e x8 ⟨rfl, rfl⟩
  go_wp2_with fail
  refine (ram_fork_nil _).mono ?_
  rintro e x8 ⟨rfl, rfl⟩
  go_wp2_with fail
  refine (ram_same_nn _).mono ?_
  rintro e x8 ⟨rfl, rfl⟩
  go_wp2_with fail
  refine (ram_same_np b _).mono ?_
  rintro e x8 ⟨rfl, rfl⟩
  go_wp2_with fail
  refine (ram_same_pn b _).mono ?_
  rintro e x8 ⟨rfl, rfl⟩
  go_wp2_with fail
  go_ret
  exact ⟨rfl, H7.out⟩
end Go.Proofs.Ytebdbbpefmgooaa
