/- Contracts of the functions of the ROM and of its law: what each call answers and leaves. No condition. isa's load: what it answers (memory, the ROM). No condition. -/
import Derived.Test.YtkogjjeoihnjpaaGreatPack6
import Derived.Deep.RegionWith
import Derived.Deep.LoopGhost
import Derived.Deep.DeepCutAuto
import Derived.Deep.DeepFit
import Derived.Deep.DeepMust
import Derived.Test.YtkogjjeoihnjpaaGreatPack7
section
set_option linter.unusedVariables false
set_option linter.unusedSimpArgs false
namespace Go.Proofs.YtkogjjeoihnjpaaGreat
open Go.RowKit
/-- no bytes, and that error -/
def ErrIs (w : World) (k : Int) (e : Ending) (w' : World) : Prop := e = .returned (.tuple #[.slice none 0 0, .int .i64 k]) ∧ w = w'
set_option maxRecDepth 100000 in
set_option maxHeartbeats 1000000 in
theorem rom_read_neg (off n : Int) (h : n < 0) (w : World) : Calls Tryz.prog 151 #[.int .u64 off, .int .i64 n] w (ErrIs w 1) := by
  go_enter Tryz.func151, Tryz.ntmps151
  go_wp2
  go_ret2
  exact ⟨rfl, rfl⟩
set_option maxRecDepth 100000 in
set_option maxHeartbeats 1000000 in
theorem ref_read_neg (off n : Int) (h : n < 0) (w : World) : Calls Tryz.prog 124 #[.int .u64 off, .int .i64 n] w (ErrIs w 1) := by
  go_enter Tryz.func124, Tryz.ntmps124
  go_wp2
  go_ret2
  exact ⟨rfl, rfl⟩
set_option maxRecDepth 100000 in
set_option maxHeartbeats 1000000 in
theorem rom_read_bus (off n : Int) (h0 : 0 ≤ n) (h2 : n ≤ 9223372036854775807) (o0 : 0 ≤ off) (o1 : off ≤ 18446744073709551615) (h : 4096 < off ∨ 4096 - off < n) (w : World) :
    Calls Tryz.prog 151 #[.int .u64 off, .int .i64 n] w (ErrIs w 6) := by
  by_cases hc : 4096 < off
  · clear h
    go_enter Tryz.func151, Tryz.ntmps151
    go_wp2
    go_ret2
    exact ⟨rfl, rfl⟩
  · have h' : 4096 - off < n := by omega
    have hc : off ≤ 4096 := by omega
    clear h
    go_enter Tryz.func151, Tryz.ntmps151
    go_wp2
    go_ret2
    exact ⟨rfl, rfl⟩
set_option maxRecDepth 100000 in
set_option maxHeartbeats 1000000 in
theorem ref_read_bus (off n : Int) (h0 : 0 ≤ n) (h2 : n ≤ 9223372036854775807) (o0 : 0 ≤ off) (o1 : off ≤ 18446744073709551615) (h : 4096 < off ∨ 4096 - off < n) (w : World) :
    Calls Tryz.prog 124 #[.int .u64 off, .int .i64 n] w (ErrIs w 6) := by
  by_cases hc : 4096 < off
  · clear h
    go_enter Tryz.func124, Tryz.ntmps124
    go_wp2
    go_ret2
    exact ⟨rfl, rfl⟩
  · have h' : 4096 - off < n := by omega
    have hc : off ≤ 4096 := by omega
    clear h
    go_enter Tryz.func124, Tryz.ntmps124
    go_wp2
    go_ret2
    exact ⟨rfl, rfl⟩
end Go.Proofs.YtkogjjeoihnjpaaGreat
end
section
set_option linter.unusedVariables false
set_option linter.unusedSimpArgs false
namespace Go.Proofs.YtkogjjeoihnjpaaGreat
open Go.RowKit
/-- what is loaded: of the ROM, of memory; 0 where nothing is -/
def loadN (n : Nat) (ct : Nat → Nat) (x : Int) (k : Nat) : Nat :=
  if (pmaFind n x).1 = 1 then (if (pmaFind n x).2.2.2.toNat + k ≤ 4096 then wordN (fun i => (romAt ((pmaFind n x).2.2.2.toNat + i)).toNat) k else 0)
  else if mayErr n x k = 0 then wordAt ct (x - 2147483648).toNat k else 0
theorem pmaFind_rom {n : Nat} {x : Int} (h : (pmaFind n x).1 = 1) : 4096 ≤ x ∧ x < 8192 ∧ (pmaFind n x).2.2.2 = x - 4096 := by
  unfold pmaFind at *
  split at h
  · rename_i h0; rw [if_pos h0]; exact ⟨h0.1, h0.2, rfl⟩
  · repeat' (split at h)
    all_goals simp at h
theorem loadN_lt {n : Nat} {ct : Nat → Nat} (h : ∀ i, ct i < 256) {x : Int} {k : Nat} (hk : k ≤ 8) : loadN n ct x k < 2 ^ 64 := by
  have key : ∀ f : Nat → Nat, (∀ i, f i < 256) → wordN f k < 2 ^ 64 := fun f hf => Nat.lt_of_lt_of_le (wordN_lt hf k) (Nat.pow_le_pow_right (by decide) (by omega))
  unfold loadN
  split
  · split
    · exact key _ fun i => by have := romAt_bd ((pmaFind n x).2.2.2.toNat + i); omega
    · exact Nat.two_pow_pos 64
  · split
    · exact key _ fun i => h _
    · exact Nat.two_pow_pos 64
/-- block p is a machine over memory b -/
def MachAt (w : World) (p b : Nat) (cs : List Value) : Prop := cs.length = 66 ∧ w.heap[p]? = some (.cells (cs ++ [Value.pointer (some ⟨b, 0, none⟩)]).toArray 94 (0, 0))
theorem MachAt.ram {w : World} {p b : Nat} {cs : List Value} (h : MachAt w p b cs) : w.cell? ⟨p, 66, none⟩ = some (.pointer (some ⟨b, 0, none⟩)) := by
  simp only [World.cell?, h.2]
  simp [← h.1]
theorem MachAt.below {w w' : World} {p b : Nat} {cs : List Value} (h : MachAt w p b cs) (hb : Below w.heap.size w w') : MachAt w' p b cs := ⟨h.1, by rw [hb.block p (blk_lt h.2)]; exact h.2⟩
def LoadIs (w : World) (v : Nat) (e : Ending) (w' : World) : Prop := e = .returned (.int .u64 (v : Nat)) ∧ Below w.heap.size w w'
set_option maxRecDepth 100000 in
set_option maxHeartbeats 1000000 in
theorem isa_load_ram {w : World} {p b n : Nat} {cs : List Value} {ct : Nat → Nat} {S : Nat → Prop} (hm : MachAt w p b cs) (h : RamAt w b n ct S) (h4 : 4 ≤ n) (h256 : n ≤ 256) (x : Int) (x0 : 0 ≤ x) (x1 : x < 18446744073709551616) (k : Nat) (hr : (pmaFind n x).1 ≠ 1) :
    Calls Tryz.prog 65 #[.pointer (some ⟨p, 0, none⟩), .int .u64 x, .int .i64 k] w (LoadIs w (loadN n ct x k)) := by
  have HR := Lib.hid (pma_region n h4 h256 x x0 x1)
  have hv : (if mayErr n x k = 0 then wordAt ct (x - 2147483648).toNat k else 0) = loadN n ct x k := by unfold loadN; rw [if_neg hr]
  have hne : ((pmaFind n x).1 == 1) = false := by simpa using hr
  have HW : Hid (∀ wq, RamAt wq b n ct S → ∃ er : Int, Calls Tryz.prog 30 #[.pointer (some ⟨b, 0, none⟩), .int .u64 x, .int .i64 k] wq (WordOr wq · · er (loadN n ct x k))) := fun wq hq => by
    rw [← hv]
    by_cases hme : mayErr n x k = 0
    · rw [if_pos hme]; exact ⟨0, ram_word_ok hq x x0 x1 k hme⟩
    · rw [if_neg hme]; exact ⟨_, ram_word_err hq x x0 x1 k hme⟩
  have HC := Lib.hid hm.ram
  have hcell := hm.ram
  have H := Lib.hid h
  have HM := Lib.hid hm
  clear hv hr x0 x1 h hm h4 h256
  generalize (pmaFind n x).1 = K at *
  generalize loadN n ct x k = V at *
  go_enter Tryz.func65, Tryz.ntmps65
  go_wp2_with fail
  refine (ram_pages H.out).mono ?_
  rintro e w1 ⟨rfl, rfl⟩
  go_wp2_with fail
  refine (HR.out _).mono ?_
  rintro e w1 ⟨rfl, hb⟩
  have HB := Lib.hid hb
  have hcell1 : w1.cell? ⟨p, 66, none⟩ = some (.pointer (some ⟨b, 0, none⟩)) := (HM.out.below hb).ram
  clear hb
  go_wp2_with fail
  obtain ⟨er, hw⟩ := HW.out _ (H.out.below HB.out)
  refine hw.mono ?_
  rintro e w2 ⟨rfl, hb2⟩
  have HB2 : Hid (Below w.heap.size w w2) := below_then HB.out hb2 HB.out.size
  clear hb2 hw
  go_wp2_with fail
  go_ret
  exact ⟨rfl, HB2.out⟩
set_option maxRecDepth 100000 in
set_option maxHeartbeats 1000000 in
theorem isa_load_rom {w : World} {p b n : Nat} {cs : List Value} {ct : Nat → Nat} {S : Nat → Prop} (hm : MachAt w p b cs) (h : RamAt w b n ct S) (h4 : 4 ≤ n) (h256 : n ≤ 256) (x : Int) (x0 : 0 ≤ x) (x1 : x < 18446744073709551616) (k : Nat) (hk : k ≤ 8) (hr : (pmaFind n x).1 = 1) :
    Calls Tryz.prog 65 #[.pointer (some ⟨p, 0, none⟩), .int .u64 x, .int .i64 k] w (LoadIs w (loadN n ct x k)) := by
  obtain ⟨r1, r2, r3⟩ := pmaFind_rom hr
  have HR := Lib.hid (pma_region n h4 h256 x x0 x1)
  have HO := Lib.hid (pma_offset n h4 h256 x x0 x1)
  obtain ⟨o, ho⟩ : ∃ o : Nat, x - 4096 = o := ⟨(x - 4096).toNat, by omega⟩
  rw [r3, ho] at HO
  rw [hr] at HR
  have HA : Hid (∀ wq, ∃ er : Int, Calls Tryz.prog 151 #[.int .u64 o, .int .i64 k] wq (fun e w' => ∃ a m c l, e = .returned (.tuple #[.slice a m c, .int .i64 er]) ∧ (m : Int) ≤ 8 ∧ IsB w' a m l ∧ Below wq.heap.size wq w' ∧ wordN (fun i => (l.getD i 0).toNat) m = loadN n ct x k)) := fun wq => by
    have ho2 : (pmaFind n x).2.2.2.toNat = o := by rw [r3, ho]; omega
    by_cases hf : o + k ≤ 4096
    · refine ⟨0, (rom_read o k hf wq).mono ?_⟩
      rintro e w' ⟨a, c, rfl, hb1, hb2⟩
      refine ⟨a, k, c, _, rfl, by omega, hb1, hb2, ?_⟩
      unfold loadN
      rw [if_pos hr, ho2, if_pos hf]
      exact wordN_congr k fun i hi => by rw [romL_get _ _ _ hi]
    · refine ⟨6, (rom_read_bus o k (by omega) (by omega) (by omega) (by omega) (by omega) wq).mono ?_⟩
      rintro e w' ⟨rfl, rfl⟩
      refine ⟨none, 0, 0, [], rfl, by omega, ⟨rfl, (fun x hx => by cases hx), .inl ⟨rfl, rfl⟩⟩, .refl _ _, ?_⟩
      unfold loadN
      rw [if_pos hr, ho2, if_neg hf]
      rfl
  have hcell := hm.ram
  have H := Lib.hid h
  have HM := Lib.hid hm
  clear hr x0 x1 h hm h4 h256 r1 r2 r3 ho hk
  generalize loadN n ct x k = V at *
  go_enter Tryz.func65, Tryz.ntmps65
  go_wp2_with fail
  refine (ram_pages H.out).mono ?_
  rintro e w1 ⟨rfl, rfl⟩
  go_wp2_with fail
  refine (HR.out _).mono ?_
  rintro e w1 ⟨rfl, hb⟩
  have HB := Lib.hid hb
  have hcell1 : w1.cell? ⟨p, 66, none⟩ = some (.pointer (some ⟨b, 0, none⟩)) := (HM.out.below hb).ram
  clear hb
  go_wp2_with fail
  refine (ram_pages (H.out.below HB.out)).mono ?_
  rintro e w2 ⟨rfl, rfl⟩
  go_wp2_with fail
  refine (HO.out _).mono ?_
  rintro e w2 ⟨rfl, hb2⟩
  have HB2 : Hid (Below w.heap.size w w2) := below_then HB.out hb2 HB.out.size
  clear hb2
  go_wp2_with fail
  obtain ⟨er, hw⟩ := HA.out w2
  refine hw.mono ?_
  rintro e w3 ⟨a, m, c, l, rfl, h8, hib, hb3, hv⟩
  have HB3 : Hid (Below w.heap.size w w3) := below_then HB2.out hb3 HB2.out.size
  have HV := Lib.hid hv
  have HIB := Lib.hid hib
  have H8 := Lib.hid h8
  clear hb3 hv hib hw h8
  go_wp2_with fail
  refine (bits_word_le a m c l _ HIB.out (by have := H8.out; omega) H8.out).mono ?_
  rintro e w4 ⟨rfl, rfl⟩
  rw [HV.out]
  go_wp2_with fail
  go_ret
  exact ⟨rfl, HB3.out⟩
theorem isa_load {w : World} {p b n : Nat} {cs : List Value} {ct : Nat → Nat} {S : Nat → Prop} (hm : MachAt w p b cs) (h : RamAt w b n ct S) (x : Int) (x0 : 0 ≤ x) (x1 : x < 18446744073709551616) (k : Nat) (hk : k ≤ 8) :
    Calls Tryz.prog 65 #[.pointer (some ⟨p, 0, none⟩), .int .u64 x, .int .i64 k] w (LoadIs w (loadN n ct x k)) := by
  obtain ⟨m, pg, h1, h2⟩ := id h
  by_cases hr : (pmaFind n x).1 = 1
  · exact isa_load_rom hm h h1.lo h1.hi x x0 x1 k hk hr
  · exact isa_load_ram hm h h1.lo h1.hi x x0 x1 k hr
end Go.Proofs.YtkogjjeoihnjpaaGreat
end
