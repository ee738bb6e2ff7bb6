/- Contracts of the functions of the ROM and of its law: what each call answers and leaves. No condition. -/
import Derived.Test.YtebdbbpefmgooaaRom4
import Derived.Deep.RegionWith
import Derived.Deep.LoopGhost
import Derived.Deep.DeepCutAuto
import Derived.Deep.DeepFit
import Derived.Deep.DeepMust
set_option linter.unusedVariables false
set_option linter.unusedSimpArgs false
namespace Go.Proofs.Ytebdbbpefmgooaa
open Go.RowKit
/-- bytes l and the error k, nothing that was there turned -/
def Reads (w : World) (l : List Int) (k : Int) (e : Ending) (w' : World) : Prop := ∃ a n c, e = .returned (.tuple #[.slice a n c, .int .i64 k]) ∧ IsB w' a n l ∧ Below w.heap.size w w'
theorem reads (off n : Int) (h0 : 0 ≤ off) (h1 : off ≤ 18446744073709551615) (h2 : n ≤ 9223372036854775807) :
    ∃ l k, (∀ w, Calls Try.prog 16 #[.int .u64 off, .int .i64 n] w (Reads w l k)) ∧ (∀ w, Calls Try.prog 17 #[.int .u64 off, .int .i64 n] w (Reads w l k)) := by
  have err : ∀ k w e w', ErrIs w k e w' → Reads w [] k e w' := by
    rintro k w e w' ⟨rfl, rfl⟩
    exact ⟨none, 0, 0, rfl, ⟨rfl, by simp, .inl ⟨rfl, rfl⟩⟩, Below.refl _ _⟩
  by_cases hn : n < 0
  · exact ⟨[], 1, fun w => (rom_read_neg off n hn w).mono (err 1 w), fun w => (ref_read_neg off n hn w).mono (err 1 w)⟩
  by_cases hb : 4096 < off ∨ 4096 - off < n
  · exact ⟨[], 6, fun w => (rom_read_bus off n (by omega) h2 h0 h1 hb w).mono (err 6 w), fun w => (ref_read_bus off n (by omega) h2 h0 h1 hb w).mono (err 6 w)⟩
  have ok : ∀ m l w e w', BytesOk w m l e w' → Reads w l 0 e w' := by
    rintro m l w e w' ⟨a, c, rfl, hb, hw⟩
    exact ⟨a, m, c, rfl, hb, hw⟩
  obtain ⟨o, rfl⟩ := Int.eq_ofNat_of_zero_le h0
  obtain ⟨m, rfl⟩ := Int.eq_ofNat_of_zero_le (show 0 ≤ n by omega)
  exact ⟨romL o m, 0, fun w => (rom_read o m (by omega) w).mono (ok _ _ _), fun w => (ref_read o m (by omega) w).mono (ok _ _ _)⟩
theorem isB_below {w w' : World} {a : Option Addr} {n : Nat} {l : List Int} (h : IsB w a n l) (hb : Below w.heap.size w w') : IsB w' a n l := by
  obtain ⟨h1, h2, h3⟩ := h
  refine ⟨h1, h2, h3.imp id ?_⟩
  rintro ⟨b, o, rfl, hc⟩
  refine ⟨b, o, rfl, fun i hi => ?_⟩
  rw [hb.cell (p := ⟨b, o + i, none⟩) (World.block_lt_of_cell? w _ (hc i hi))]
  exact hc i hi

set_option maxRecDepth 100000 in
set_option maxHeartbeats 2000000 in
theorem rom_law (off n k : Int) (h0 : 0 ≤ off) (h1 : off ≤ 18446744073709551615) (h2 : n ≤ 9223372036854775807) (k0 : -9223372036854775808 ≤ k) (k1 : k ≤ 9223372036854775807) (w : World) :
    Calls Try.prog 3 #[.int .u64 off, .int .i64 n, .int .i64 k] w fun e w' => e = .returned (.bool true) ∧ Below w.heap.size w w' := by
  obtain ⟨l, er, R1, R2⟩ := reads off n h0 h1 h2
  have R1' := Lib.hid R1; have R2' := Lib.hid R2; clear R1 R2
  obtain ⟨m, hm0, hm, hk⟩ : ∃ m : Int, 0 ≤ m ∧ m < 4096 ∧ wrap64 ((IntKind.u64.wrap k).tmod 4096) = m := by
    refine ⟨(k % 18446744073709551616) % 4096, by omega, by omega, ?_⟩
    rw [IntKind.wrap_u64, Int.tmod_eq_emod_of_nonneg (by omega)]
    unfold wrap64
    omega
  go_enter Try.func3, Try.ntmps3
  go_wp2_with fail
  refine (rom_bytes w).mono ?_
  rintro e w1 ⟨rfl, hh, hb⟩
  have HH := Lib.hid hh; have HB := Lib.hid hb; clear hh hb
  go_wp2_with fail
  refine (R1'.out _).mono ?_
  rintro e w2 ⟨a1, n1, c1, rfl, ib1, hb2⟩
  have HH2 : Hid (w2.heap[w.heap.size + 1]? = some (.cells (romArr 32) 5 (0, 0))) := (hb2.block _ (blk_lt HH.out)).trans HH.out
  have HB2 : Hid (Below w.heap.size w w2) := below_then HB.out hb2 HB.out.size
  have I1 := Lib.hid ib1
  clear hb2 HH HB ib1
  go_wp2_with fail
  refine (R2'.out _).mono ?_
  rintro e w3 ⟨a2, n2, c2, rfl, ib2, hb3⟩
  have HH3 : Hid (w3.heap[w.heap.size + 1]? = some (.cells (romArr 32) 5 (0, 0))) := (hb3.block _ (blk_lt HH2.out)).trans HH2.out
  have HB3 : Hid (Below w.heap.size w w3) := below_then HB2.out hb3 HB2.out.size
  have I1' : Hid (IsB w3 a1 n1 l) := isB_below I1.out hb3
  have I2 := Lib.hid ib2
  clear hb3 HH2 HB2 I1 ib2
  go_wp2_with fail
  refine (rom_awake _).mono ?_
  rintro e w4 ⟨rfl, hb4⟩
  have HH4 : Hid (w4.heap[w.heap.size + 1]? = some (.cells (romArr 32) 5 (0, 0))) := (hb4.block _ (blk_lt HH3.out)).trans HH3.out
  have HB4 : Hid (Below w.heap.size w w4) := below_then HB3.out hb4 HB3.out.size
  have J1 : Hid (IsB w4 a1 n1 l) := isB_below I1'.out hb4
  have J2 : Hid (IsB w4 a2 n2 l) := isB_below I2.out hb4
  clear hb4 HH3 HB3 I1' I2 R1' R2'
  go_wp2_with fail
  refine (same_bytes a1 a2 n1 n2 c1 c2 l l _ J1.out J2.out).mono ?_
  rintro e w5 ⟨rfl, rfl⟩
  rw [show eqB l l = true by simp [eqB]]
  clear J1 J2
  go_wp2_with fail
  refine (rom_reset _).mono ?_
  rintro e w6 ⟨rfl, hb6⟩
  have HH6 : Hid (w6.heap[w.heap.size + 1]? = some (.cells (romArr 32) 5 (0, 0))) := (hb6.block _ (blk_lt HH4.out)).trans HH4.out
  have HB6 : Hid (Below w.heap.size w w6) := below_then HB4.out hb6 HB4.out.size
  clear hb6 HH4 HB4
  go_wp2_with fail
  refine (ref_reset _).mono ?_
  rintro e w7 ⟨rfl, hb7⟩
  have HH7 : Hid (w7.heap[w.heap.size + 1]? = some (.cells (romArr 32) 5 (0, 0))) := (hb7.block _ (blk_lt HH6.out)).trans HH6.out
  have HB7 : Hid (Below w.heap.size w w7) := below_then HB6.out hb7 HB6.out.size
  clear hb7 HH6 HB6
  have hneq := hart_neq
  go_upto_region 7 with fail
  rw [hk]
  clear hk
  go_cut [53] (fun s53 wx => s53 = .bool false ∧ wx.heap[w.heap.size + 1]? = some (.cells (romArr 32) 5 (0, 0)) ∧ Below w.heap.size w wx)
  case first =>
    have hc : w7.cell? ⟨w.heap.size + 1, m.toNat, none⟩ = some (.int .u8 (romAt m.toNat)) := by rw [blk_cell HH7.out, romArr_get _ _ (by omega), romAt32]
    go_region_with (go_at_call 22; refine (ref_at _ (by omega) _).mono ?_; rintro e w8 ⟨rfl, hb8⟩; have hc8 := (hb8.cell (p := ⟨w.heap.size + 1, m.toNat, none⟩) (blk_lt HH7.out)).trans hc; have HB8 : Hid (Below w.heap.size w w8) := below_then HB7.out.drew hb8 HB7.out.size; have HH8 : Hid (w8.heap[w.heap.size + 1]? = some (.cells (romArr 32) 5 (0, 0))) := (hb8.block _ (blk_lt HH7.out)).trans HH7.out; clear hb8)
    all_goals (go_wp2_with fail; go_meet; exact ⟨rfl, HH8.out, HB8.out⟩)
  case rest =>
    obtain ⟨rfl, hh, hb⟩ := hcut
    have HH8 := Lib.hid hh; have HB8 := Lib.hid hb; clear hh hb HH7 HB7
    go_wp2_with fail
    refine (same_spoil (w.heap.size + 1) 0 4096 4096 (by omega) _ ?hc ?hf).mono ?_
    case hc => exact fun i hi => ⟨_, (blk_cell HH8.out _).trans (romArr_get _ _ (by omega))⟩
    case hf => exact fun i hi => blk_frozen HH8.out _
    rintro e w9 ⟨rfl, hb9⟩
    have HB9 : Hid (Below w.heap.size w w9) := HB8.out.trans (hb9 _ (by omega))
    clear hb9 HH8 HB8
    go_wp2_with fail
    go_region_with (first | (go_at_call 15; refine (rom_bytes _).mono ?_; rintro e w10 ⟨rfl, hh10, hb10⟩; have hc10 : w10.cell? ⟨w9.heap.size + 1, m.toNat, none⟩ = some (.int .u8 (romAt m.toNat)) := (blk_cell hh10 m.toNat).trans ((romArr_get _ _ (by omega)).trans (congrArg some (congrArg (Value.int .u8) (romAt32 _)))); have hl10 : w9.heap.size + 1 < w10.heap.size := blk_lt hh10; have HB10 : Hid (Below w.heap.size w w10) := below_then HB9.out.drew hb10 HB9.out.size; clear hh10 hb10) | (go_at_call 22; refine (ref_at _ (by omega) _).mono ?_; rintro e w11 ⟨rfl, hb11⟩; have hc11 : w11.cell? ⟨w9.heap.size + 1, m.toNat, none⟩ = some (.int .u8 (romAt m.toNat)) := (hb11.cell (p := ⟨_, m.toNat, none⟩) hl10).trans hc10; have HB11 : Hid (Below w.heap.size w w11) := below_then HB10.out hb11 HB10.out.size; clear hb11))
    all_goals (go_wp2; go_ret; exact ⟨rfl, HB11.out⟩)
theorem wf_u64 {a : Int} (h : (Lit.int .u64 a).wf = true) : 0 ≤ a ∧ a ≤ 18446744073709551615 := by simpa [Lit.wf, IntKind.min, IntKind.max, IntKind.signed, IntKind.bits] using h
theorem wf_i64 {a : Int} (h : (Lit.int .i64 a).wf = true) : -9223372036854775808 ≤ a ∧ a ≤ 9223372036854775807 := by simpa [Lit.wf, IntKind.min, IntKind.max, IntKind.signed, IntKind.bits] using h
theorem rom_walk (a0 : Int) (w0 : (Lit.int .u64 a0).wf = true) (a1 : Int) (w1 : (Lit.int .i64 a1).wf = true) (a2 : Int) (w2 : (Lit.int .i64 a2).wf = true) (w : World) :
    Calls Try.prog 3 #[.int .u64 a0, .int .i64 a1, .int .i64 a2] w fun e w' => e = .returned (.bool true) ∧ Below w.heap.size w w' :=
  rom_law a0 a1 a2 (wf_u64 w0).1 (wf_u64 w0).2 (wf_i64 w1).2 (wf_i64 w2).1 (wf_i64 w2).2 w
end Go.Proofs.Ytebdbbpefmgooaa
