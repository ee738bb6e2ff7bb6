/- Contracts of the functions of the ROM and of its law: what each call answers and leaves. No condition. -/
import Derived.Test.YtkogjjeoihnjpaaGreatPack6
import Derived.Deep.RegionWith
import Derived.Deep.LoopGhost
import Derived.Deep.DeepCutAuto
import Derived.Deep.DeepFit
import Derived.Deep.DeepMust
section
set_option linter.unusedVariables false
set_option linter.unusedSimpArgs false
namespace Go.Proofs.YtkogjjeoihnjpaaGreat
open Go.RowKit
/-- no bytes, and that error -/
def ErrIs (w : World) (k : Int) (e : Ending) (w' : World) : Prop := e = .returned (.tuple #[.slice none 0 0, .int .i64 k]) ∧ w = w'
set_option maxRecDepth 100000 in
set_option maxHeartbeats 1000000 in
theorem rom_read_neg (off n : Int) (h : n < 0) (w : World) : Calls Tryz.prog 151 #[.int .u64 off, .int .i64 n] w (ErrIs w 1) := by
  go_enter Tryz.func151, Tryz.ntmps151
  go_wp2
  go_ret2
  exact ⟨rfl, rfl⟩
set_option maxRecDepth 100000 in
set_option maxHeartbeats 1000000 in
theorem ref_read_neg (off n : Int) (h : n < 0) (w : World) : Calls Tryz.prog 124 #[.int .u64 off, .int .i64 n] w (ErrIs w 1) := by
  go_enter Tryz.func124, Tryz.ntmps124
  go_wp2
  go_ret2
  exact ⟨rfl, rfl⟩
set_option maxRecDepth 100000 in
set_option maxHeartbeats 1000000 in
theorem rom_read_bus (off n : Int) (h0 : 0 ≤ n) (h2 : n ≤ 9223372036854775807) (o0 : 0 ≤ off) (o1 : off ≤ 18446744073709551615) (h : 4096 < off ∨ 4096 - off < n) (w : World) :
    Calls Tryz.prog 151 #[.int .u64 off, .int .i64 n] w (ErrIs w 6) := by
  by_cases hc : 4096 < off
  · clear h
    go_enter Tryz.func151, Tryz.ntmps151
    go_wp2
    go_ret2
    exact ⟨rfl, rfl⟩
  · have h' : 4096 - off < n := by omega
    have hc : off ≤ 4096 := by omega
    clear h
    go_enter Tryz.func151, Tryz.ntmps151
    go_wp2
    go_ret2
    exact ⟨rfl, rfl⟩
set_option maxRecDepth 100000 in
set_option maxHeartbeats 1000000 in
theorem ref_read_bus (off n : Int) (h0 : 0 ≤ n) (h2 : n ≤ 9223372036854775807) (o0 : 0 ≤ off) (o1 : off ≤ 18446744073709551615) (h : 4096 < off ∨ 4096 - off < n) (w : World) :
    Calls Tryz.prog 124 #[.int .u64 off, .int .i64 n] w (ErrIs w 6) := by
  by_cases hc : 4096 < off
  · clear h
    go_enter Tryz.func124, Tryz.ntmps124
    go_wp2
    go_ret2
    exact ⟨rfl, rfl⟩
  · have h' : 4096 - off < n := by omega
    have hc : off ≤ 4096 := by omega
    clear h
    go_enter Tryz.func124, Tryz.ntmps124
    go_wp2
    go_ret2
    exact ⟨rfl, rfl⟩
end Go.Proofs.YtkogjjeoihnjpaaGreat
end
