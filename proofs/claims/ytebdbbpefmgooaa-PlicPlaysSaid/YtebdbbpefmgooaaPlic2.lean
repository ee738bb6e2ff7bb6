/- The PLIC: its functions walked. No condition. -/
import Derived.Test.YtebdbbpefmgooaaPlic1
import Derived.StillTailTactics
import Derived.BigRegion
import Derived.Deep.RegionWith
import Derived.Deep.QuietTactic
import Derived.BigQuiet
import Derived.Deep.LoopGhost
import Derived.Deep.DeepCutAuto
import Derived.Deep.DeepFit
import Derived.Deep.DeepMust
set_option linter.unusedVariables false
set_option linter.unusedSimpArgs false
namespace Go.Proofs.Ytebdbbpefmgooaa
open Go.RowKit
/-- block b has become the PLIC d; nothing else that was there has turned -/
def PlicSet (w : World) (b : Nat) (d : Dev) (w' : World) : Prop := PlicAt w' b d ∧ w.grownBy w' (some b)
set_option maxRecDepth 100000 in
set_option maxHeartbeats 1000000 in
theorem plic_tick (d : Dev) (hd : d.Ok) (b l : Nat) (hl : l < 2 ^ 32) (w : World) (hp : PlicAt w b d) :
    Calls Try.prog 27 #[.pointer (some ⟨b, 0, none⟩), .int .u32 l] w fun e w' => e = .returned (.tuple #[]) ∧ PlicSet w b (d.tick l) w' := by
  have c0 : w.cell? ⟨b, 11, none⟩ = some (.int .u32 d.pend) := blk_cell hp 11
  have c1 : w.cell? ⟨b, 12, none⟩ = some (.int .u32 d.cla) := blk_cell hp 12
  have f0 : w.frozen? ⟨b, 11, none⟩ = false := blk_frozen hp 11
  have e1 : bits .and .u32 (l : Int) 254 = ((l &&& 254 : Nat) : Int) := and32 l 254 hl (by omega)
  have e2 := andNot32_i (l &&& 254) d.cla (and_lt32 _ hl) hd.cla
  have e3 := or32 d.pend (andNot32 (l &&& 254) d.cla) hd.pend (andNot32_lt _ (and_lt32 _ hl))
  have H := Lib.hid hp; clear hp hl hd
  go_enter Try.func27, Try.ntmps27
  go_wp2
  go_region
  go_end0
  exact ⟨rfl, blk_set H.out 11 _, grown_drew (grown_set (grown_refl _ _) _ _)⟩
end Go.Proofs.Ytebdbbpefmgooaa
