/- The PLIC as a call that made it sees it; its law-s first test. No condition. -/
import Derived.Test.YtebdbbpefmgooaaPlic12
import Derived.Test.YtebdbbpefmgooaaDevEq
import Derived.StillTailTactics
import Derived.BigRegion
import Derived.Deep.RegionWith
import Derived.Deep.QuietTactic
import Derived.BigQuiet
import Derived.Deep.LoopGhost
import Derived.Deep.DeepCutAuto
import Derived.Deep.DeepFit
import Derived.Deep.DeepMust
set_option linter.unusedVariables false
set_option linter.unusedSimpArgs false
namespace Go.Proofs.Ytebdbbpefmgooaa
open Go.RowKit
def dev0 : Dev := ⟨false, 0, 0, fun _ => 0, 0, 0, fun _ => 0, fun _ => 0, 0, none, 0, 0, none, 0, 0, 0, false⟩
theorem dev0_ok : dev0.Ok := ⟨fun _ _ => Nat.two_pow_pos 32, Nat.two_pow_pos 32, Nat.two_pow_pos 32, fun _ _ => Nat.two_pow_pos 32, fun _ _ => Nat.two_pow_pos 32⟩
theorem plicSet_below {w w' : World} {b : Nat} {d : Dev} (h : PlicSet w b d w') {B : Nat} {W : World} (hb : Below B W w) (hB : B ≤ w.heap.size) (hbb : B ≤ b) : Below B W w' := grown_below hb h.2 hB hbb
/-- a PLIC stands at block b, one of the call's own; nothing that was there has turned -/
structure PlicHere (W : World) (b : Nat) (d : Dev) (w : World) : Prop where
  at_ : PlicAt w b d
  ok : d.Ok
  ge : W.heap.size ≤ b
  below : Below W.heap.size W w
theorem PlicHere.set {W w w' : World} {b : Nat} {d d' : Dev} (h : PlicHere W b d w) (hs : PlicSet w b d' w') (hd : d'.Ok) : PlicHere W b d' w' := ⟨hs.1, hd, h.ge, plicSet_below hs h.below h.below.size h.ge⟩
theorem PlicHere.drewN {W w : World} {b : Nat} {d : Dev} (h : PlicHere W b d w) (n : Nat) : PlicHere W b d (w.drewN n) := ⟨h.at_, h.ok, h.ge, below_drewN h.below n⟩
theorem PlicHere.keep {W w w' : World} {b : Nat} {d : Dev} (h : PlicHere W b d w) (hb : Below w.heap.size w w') : PlicHere W b d w' := ⟨blk_below hb (blk_lt h.at_) h.at_, h.ok, h.ge, below_then h.below hb h.below.size⟩
theorem PlicHere.new (W : World) : PlicHere W W.heap.size dev0 (W.alloc (.cells dev0.cells 102)) := ⟨blk_alloc _ _, dev0_ok, Nat.le_refl _, (Below.refl _ _).alloc (Nat.le_refl _) _⟩

/-- the contracts, of a PLIC of the call's own -/
theorem here_write {W w : World} {b : Nat} {d : Dev} (h : PlicHere W b d w) (off size v : Int) (v0 : 0 ≤ v) (v1 : v < 18446744073709551616) :
    Calls Try.prog 26 #[.pointer (some ⟨b, 0, none⟩), .int .u64 off, .int .i64 size, .int .u64 v] w fun e w' => e = .returned (.int .i64 (d.write off size v.toNat).1) ∧ PlicHere W b (d.write off size v.toNat).2 w' := by
  obtain ⟨n, rfl⟩ := Int.eq_ofNat_of_zero_le v0
  exact (plic_write_any d h.ok off size n (by omega) b w h.at_).mono fun e w' hh => ⟨hh.1, h.set hh.2 (d.write_ok h.ok _ _ _)⟩
theorem here_read {W w : World} {b : Nat} {d : Dev} (h : PlicHere W b d w) (off size : Int) :
    Calls Try.prog 28 #[.pointer (some ⟨b, 0, none⟩), .int .u64 off, .int .i64 size] w fun e w' => e = .returned (.tuple #[.int .u64 ((d.read off size).1 : Nat), .int .i64 (d.read off size).2.1]) ∧ PlicHere W b (d.read off size).2.2 w' :=
  (plic_read_any d h.ok off size b w h.at_).mono fun e w' hh => ⟨hh.1, h.set hh.2 (d.read_ok h.ok _ _).1⟩
theorem here_tick {W w : World} {b : Nat} {d : Dev} (h : PlicHere W b d w) (l : Int) (l0 : 0 ≤ l) (l1 : l < 4294967296) :
    Calls Try.prog 27 #[.pointer (some ⟨b, 0, none⟩), .int .u32 l] w fun e w' => e = .returned (.tuple #[]) ∧ PlicHere W b (d.tick l.toNat) w' := by
  obtain ⟨n, rfl⟩ := Int.eq_ofNat_of_zero_le l0
  exact (plic_tick d h.ok b n (by omega) w h.at_).mono fun e w' hh => ⟨hh.1, h.set hh.2 (d.tick_ok _ h.ok (by omega))⟩
theorem here_lines {W w : World} {b : Nat} {d : Dev} (h : PlicHere W b d w) :
    Calls Try.prog 29 #[.pointer (some ⟨b, 0, none⟩)] w fun e w' => e = .returned (.int .u64 (d.lns : Nat)) ∧ PlicHere W b d w' :=
  (plic_lines d h.ok b w h.at_).mono fun e w' ⟨h1, n, h2⟩ => ⟨h1, by rw [h2]; exact h.drewN n⟩
theorem here_best {W w : World} {b : Nat} {d : Dev} (h : PlicHere W b d w) (c : Int) (c0 : 0 ≤ c) (c1 : c < 2) :
    Calls Try.prog 30 #[.pointer (some ⟨b, 0, none⟩), .int .i64 c] w fun e w' => e = .returned (.int .i64 (d.best c.toNat)) ∧ PlicHere W b d w' := by
  obtain ⟨n, rfl⟩ := Int.eq_ofNat_of_zero_le c0
  exact (plic_best d h.ok b n (by omega) w h.at_).mono fun e w' ⟨h1, n, h2⟩ => ⟨h1, by rw [h2]; exact h.drewN n⟩

set_option maxRecDepth 100000 in
set_option maxHeartbeats 2000000 in
theorem plic_awake (w : World) : Calls Try.prog 25 #[] w fun e w' => e = .returned (.bool true) ∧ Below w.heap.size w w' := by
  go_enter Try.func25, Try.ntmps25
  go_wp2_with fail
  refine (plic_new _).mono ?_
  rintro e w1 ⟨rfl, rfl⟩
  have H := Lib.hid (PlicHere.new w)
  go_wp2_with fail
  refine (here_write H.out 4 4 3 (by omega) (by omega)).mono ?_
  rintro e w2 ⟨rfl, hh⟩
  rw [show (dev0.write 4 4 (3 : Int).toNat).1 = 0 from rfl]
  have H2 := Lib.hid hh; clear hh H
  go_wp2_with fail
  refine (here_write H2.out 8192 4 2 (by omega) (by omega)).mono ?_
  rintro e w3 ⟨rfl, hh⟩
  rw [show ((dev0.write 4 4 (3 : Int).toNat).2.write 8192 4 (2 : Int).toNat).1 = 0 from rfl]
  have H3 := Lib.hid hh; clear hh H2
  go_wp2_with fail
  refine (here_tick H3.out 2 (by omega) (by omega)).mono ?_
  rintro e w4 ⟨rfl, hh⟩
  have H4 := Lib.hid hh; clear hh H3
  go_wp2_with fail
  refine (here_lines H4.out).mono ?_
  rintro e w5 ⟨rfl, hh⟩
  rw [show (((dev0.write 4 4 (3 : Int).toNat).2.write 8192 4 (2 : Int).toNat).2.tick (2 : Int).toNat).lns = 2048 from by decide +kernel]
  have H5 := Lib.hid hh; clear hh H4
  go_wp2_with fail
  refine (here_best H5.out 0 (by omega) (by omega)).mono ?_
  rintro e w6 ⟨rfl, hh⟩
  rw [show (((dev0.write 4 4 (3 : Int).toNat).2.write 8192 4 (2 : Int).toNat).2.tick (2 : Int).toNat).best (0 : Int).toNat = 1 from by decide +kernel]
  have H6 := Lib.hid hh; clear hh H5
  go_wp2_with fail
  go_ret
  exact ⟨rfl, H6.out.below⟩
end Go.Proofs.Ytebdbbpefmgooaa
