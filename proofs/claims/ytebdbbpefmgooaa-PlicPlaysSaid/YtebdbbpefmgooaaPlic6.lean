/- The PLIC: a register written, and whatever is read or written, walked. No condition. -/
import Derived.Test.YtebdbbpefmgooaaPlic5
import Derived.Test.YtebdbbpefmgooaaPlicE
import Derived.StillTailTactics
import Derived.BigRegion
import Derived.Deep.RegionWith
import Derived.Deep.QuietTactic
import Derived.BigQuiet
import Derived.Deep.LoopGhost
import Derived.Deep.DeepCutAuto
import Derived.Deep.DeepFit
import Derived.Deep.DeepMust
set_option linter.unusedVariables false
set_option linter.unusedSimpArgs false
namespace Go.Proofs.Ytebdbbpefmgooaa
open Go.RowKit
set_option maxRecDepth 100000 in
set_option maxHeartbeats 1000000 in
theorem plic_write1 (d : Dev) (off : Int) (v : Nat) (hv : v < 2 ^ 64) (k : Nat) (hk : k < 8) (hpl : placeOf off = (1, (k : Int))) (b : Nat) (w : World) (hp : PlicAt w b d) :
    Calls Try.prog 26 #[.pointer (some ⟨b, 0, none⟩), .int .u64 off, .int .i64 4, .int .u64 v] w fun e w' => e = .returned (.int .i64 0) ∧ PlicSet w b { d with pr := upd d.pr k (and7 (lo32 v)) } w' := by
  have hw : Hid (∀ w, Calls Try.prog 53 #[.int .u64 off] w (PlaceIs w (1, k))) := fun w => hpl ▸ which_any off w
  have c2 : w.cell? ⟨b, 3 + k, none⟩ = some (.int .u32 (d.pr k)) := (blk_cell hp _).trans (d.cell_pr _ hk)
  have f2 : w.frozen? ⟨b, 3 + k, none⟩ = false := blk_frozen hp _
  have hki : (k : Int) < 8 := by omega
  have e0 := lo32_i v hv
  have e1 := and7_i (lo32 v) (lo32_lt v)
  have e2 := mod32_i (and7 (lo32 v)) (Nat.lt_of_lt_of_le (and7_lt _) (by omega))
  have HP := Lib.hid hp
  clear hpl hp hv
  go_enter Try.func26, Try.ntmps26
  go_wp2_with fail
  refine (hw.out _).mono ?_
  rintro e w1 ⟨rfl, rfl⟩
  go_wp2
  go_ret
  exact ⟨rfl, (blk_set HP.out (3 + k) _).trans (by rw [Dev.set_pr _ _ _ hk]), grown_set (grown_refl _ _) _ _⟩
set_option maxRecDepth 100000 in
set_option maxHeartbeats 1000000 in
theorem plic_write3 (d : Dev) (off : Int) (v : Nat) (hv : v < 2 ^ 64) (k : Nat) (hk : k < 2) (hpl : placeOf off = (3, (k : Int))) (b : Nat) (w : World) (hp : PlicAt w b d) :
    Calls Try.prog 26 #[.pointer (some ⟨b, 0, none⟩), .int .u64 off, .int .i64 4, .int .u64 v] w fun e w' => e = .returned (.int .i64 0) ∧ PlicSet w b { d with en := upd d.en k (and254 (lo32 v)) } w' := by
  have hw : Hid (∀ w, Calls Try.prog 53 #[.int .u64 off] w (PlaceIs w (3, k))) := fun w => hpl ▸ which_any off w
  have c2 : w.cell? ⟨b, 13 + k, none⟩ = some (.int .u32 (d.en k)) := (blk_cell hp _).trans (d.cell_en _ hk)
  have f2 : w.frozen? ⟨b, 13 + k, none⟩ = false := blk_frozen hp _
  have hki : (k : Int) < 2 := by omega
  have e0 := lo32_i v hv
  have e1 := and254_i (lo32 v) (lo32_lt v)
  have e2 := mod32_i (and254 (lo32 v)) (Nat.lt_of_lt_of_le (and254_lt _) (by omega))
  have HP := Lib.hid hp
  clear hpl hp hv
  go_enter Try.func26, Try.ntmps26
  go_wp2_with fail
  refine (hw.out _).mono ?_
  rintro e w1 ⟨rfl, rfl⟩
  go_wp2
  go_ret
  exact ⟨rfl, (blk_set HP.out (13 + k) _).trans (by rw [Dev.set_en _ _ _ hk]), grown_set (grown_refl _ _) _ _⟩
set_option maxRecDepth 100000 in
set_option maxHeartbeats 1000000 in
theorem plic_write4 (d : Dev) (off : Int) (v : Nat) (hv : v < 2 ^ 64) (k : Nat) (hk : k < 2) (hpl : placeOf off = (4, (k : Int))) (b : Nat) (w : World) (hp : PlicAt w b d) :
    Calls Try.prog 26 #[.pointer (some ⟨b, 0, none⟩), .int .u64 off, .int .i64 4, .int .u64 v] w fun e w' => e = .returned (.int .i64 0) ∧ PlicSet w b { d with th := upd d.th k (and7 (lo32 v)) } w' := by
  have hw : Hid (∀ w, Calls Try.prog 53 #[.int .u64 off] w (PlaceIs w (4, k))) := fun w => hpl ▸ which_any off w
  have c2 : w.cell? ⟨b, 15 + k, none⟩ = some (.int .u32 (d.th k)) := (blk_cell hp _).trans (d.cell_th _ hk)
  have f2 : w.frozen? ⟨b, 15 + k, none⟩ = false := blk_frozen hp _
  have hki : (k : Int) < 2 := by omega
  have e0 := lo32_i v hv
  have e1 := and7_i (lo32 v) (lo32_lt v)
  have e2 := mod32_i (and7 (lo32 v)) (Nat.lt_of_lt_of_le (and7_lt _) (by omega))
  have HP := Lib.hid hp
  clear hpl hp hv
  go_enter Try.func26, Try.ntmps26
  go_wp2_with fail
  refine (hw.out _).mono ?_
  rintro e w1 ⟨rfl, rfl⟩
  go_wp2
  go_ret
  exact ⟨rfl, (blk_set HP.out (15 + k) _).trans (by rw [Dev.set_th _ _ _ hk]), grown_set (grown_refl _ _) _ _⟩
set_option maxRecDepth 100000 in
set_option maxHeartbeats 1000000 in
theorem plic_write0 (off : Int) (v : Nat) (hv : v < 2 ^ 64) (hpl : placeOf off = (0, 0)) (b : Nat) (w : World) :
    Calls Try.prog 26 #[.pointer (some ⟨b, 0, none⟩), .int .u64 off, .int .i64 4, .int .u64 v] w fun e w' => e = .returned (.int .i64 6) ∧ w = w' := by
  have hw : Hid (∀ w, Calls Try.prog 53 #[.int .u64 off] w (PlaceIs w (0, 0))) := fun w => hpl ▸ which_any off w
  have e0 := lo32_i v hv
  clear hpl hv
  go_enter Try.func26, Try.ntmps26
  go_wp2_with fail
  refine (hw.out _).mono ?_
  rintro e w1 ⟨rfl, rfl⟩
  go_wp2
  go_ret
  exact ⟨rfl, rfl⟩
set_option maxRecDepth 100000 in
set_option maxHeartbeats 1000000 in
theorem plic_write2 (off : Int) (v : Nat) (hv : v < 2 ^ 64) (hpl : placeOf off = (2, 0)) (b : Nat) (w : World) :
    Calls Try.prog 26 #[.pointer (some ⟨b, 0, none⟩), .int .u64 off, .int .i64 4, .int .u64 v] w fun e w' => e = .returned (.int .i64 6) ∧ w = w' := by
  have hw : Hid (∀ w, Calls Try.prog 53 #[.int .u64 off] w (PlaceIs w (2, 0))) := fun w => hpl ▸ which_any off w
  have e0 := lo32_i v hv
  clear hpl hv
  go_enter Try.func26, Try.ntmps26
  go_wp2_with fail
  refine (hw.out _).mono ?_
  rintro e w1 ⟨rfl, rfl⟩
  go_wp2
  go_ret
  exact ⟨rfl, rfl⟩
set_option maxRecDepth 100000 in
set_option maxHeartbeats 1000000 in
theorem plic_write_size (off size v : Int) (hs : (size != 4) = true) (b : Nat) (w : World) :
    Calls Try.prog 26 #[.pointer (some ⟨b, 0, none⟩), .int .u64 off, .int .i64 size, .int .u64 v] w fun e w' => e = .returned (.int .i64 6) ∧ w = w' := by
  go_enter Try.func26, Try.ntmps26
  go_wp2
  go_ret
  exact ⟨rfl, rfl⟩
set_option maxRecDepth 100000 in
set_option maxHeartbeats 1000000 in
theorem plic_write_nil (off size v : Int) (w : World) :
    Calls Try.prog 26 #[.pointer none, .int .u64 off, .int .i64 size, .int .u64 v] w fun e w' => e = .returned (.int .i64 2) ∧ w = w' := by
  go_enter Try.func26, Try.ntmps26
  go_wp2
  go_ret
  exact ⟨rfl, rfl⟩
set_option maxRecDepth 100000 in
set_option maxHeartbeats 1000000 in
theorem plic_write5 (d : Dev) (hd : d.Ok) (off : Int) (v : Nat) (hv : v < 2 ^ 64) (h1 : 1 ≤ lo32 v) (h7 : lo32 v ≤ 7) (k : Nat) (hk : k < 2) (hpl : placeOf off = (5, (k : Int))) (b : Nat) (w : World) (hp : PlicAt w b d) :
    Calls Try.prog 26 #[.pointer (some ⟨b, 0, none⟩), .int .u64 off, .int .i64 4, .int .u64 v] w fun e w' => e = .returned (.int .i64 0) ∧ PlicSet w b (d.complete k (lo32 v)) w' := by
  have hw : Hid (∀ w, Calls Try.prog 53 #[.int .u64 off] w (PlaceIs w (5, k))) := fun w => hpl ▸ which_any off w
  have c1 : w.cell? ⟨b, 12, none⟩ = some (.int .u32 d.cla) := blk_cell hp 12
  have c2 : w.cell? ⟨b, 13 + k, none⟩ = some (.int .u32 (d.en k)) := (blk_cell hp _).trans (d.cell_en _ hk)
  have f1 : w.frozen? ⟨b, 12, none⟩ = false := blk_frozen hp 12
  have hki : (k : Int) < 2 := by omega
  have e0 := lo32_i v hv
  generalize hV : lo32 v = V at *
  have b1 : (1 : Int) ≤ V := by omega
  have b7 : (V : Int) ≤ 7 := by omega
  have e1 := shl1_32 h7
  have e2 := and32 (d.en k) (pow2 V) (hd.en k hk) (pow2_lt h7)
  have e3 := andNot32_i d.cla (d.en k &&& pow2 V) hd.cla (and_lt32 _ (hd.en k hk))
  have HP := Lib.hid hp
  clear hpl hp hv hd h1 h7 hV
  go_enter Try.func26, Try.ntmps26
  go_wp2_with fail
  refine (hw.out _).mono ?_
  rintro e w1 ⟨rfl, rfl⟩
  go_wp2
  go_region
  go_wp2
  go_ret
  exact ⟨rfl, blk_set HP.out 12 _, grown_drew (grown_set (grown_refl _ _) _ _)⟩
set_option maxRecDepth 100000 in
set_option maxHeartbeats 1000000 in
theorem plic_write5n (off : Int) (v : Nat) (hv : v < 2 ^ 64) (hn : ¬ (1 ≤ lo32 v ∧ lo32 v ≤ 7)) (k : Nat) (hpl : placeOf off = (5, (k : Int))) (b : Nat) (w : World) :
    Calls Try.prog 26 #[.pointer (some ⟨b, 0, none⟩), .int .u64 off, .int .i64 4, .int .u64 v] w fun e w' => e = .returned (.int .i64 0) ∧ w = w' := by
  have hw : Hid (∀ w, Calls Try.prog 53 #[.int .u64 off] w (PlaceIs w (5, k))) := fun w => hpl ▸ which_any off w
  have e0 := lo32_i v hv
  generalize hV : lo32 v = V at *
  clear hpl hv hV
  by_cases hz : V < 1
  · have b1 : (V : Int) < 1 := by omega
    clear hn hz
    go_enter Try.func26, Try.ntmps26
    go_wp2_with fail
    refine (hw.out _).mono ?_
    rintro e w1 ⟨rfl, rfl⟩
    go_wp2
    go_ret
    exact ⟨rfl, rfl⟩
  · have b1 : (1 : Int) ≤ V := by omega
    have b7 : (7 : Int) < V := by omega
    clear hn hz
    go_enter Try.func26, Try.ntmps26
    go_wp2_with fail
    refine (hw.out _).mono ?_
    rintro e w1 ⟨rfl, rfl⟩
    go_wp2
    go_ret
    exact ⟨rfl, rfl⟩
/-- whatever is written -/
theorem plic_write_any (d : Dev) (hd : d.Ok) (off size : Int) (v : Nat) (hv : v < 2 ^ 64) (b : Nat) (w : World) (hp : PlicAt w b d) :
    Calls Try.prog 26 #[.pointer (some ⟨b, 0, none⟩), .int .u64 off, .int .i64 size, .int .u64 v] w fun e w' => e = .returned (.int .i64 (d.write off size v).1) ∧ PlicSet w b (d.write off size v).2 w' := by
  have same : ∀ (k : Int) (e : Ending) (w' : World), (e = .returned (.int .i64 k) ∧ w = w') → e = .returned (.int .i64 k) ∧ PlicSet w b d w' := by
    rintro k e w' ⟨rfl, rfl⟩; exact ⟨rfl, hp, grown_refl _ _⟩
  unfold Dev.write
  by_cases hs : size = 4
  · subst hs
    rw [if_pos rfl]
    rcases place_cases off with h | ⟨k, h1, h2, h⟩ | h | ⟨k, h2, h⟩ | ⟨k, h2, h⟩ | ⟨k, h2, h⟩ <;> simp only [h, Int.toNat_natCast, if_pos, if_neg, reduceIte, Int.reduceEq]
    · exact (plic_write0 off v hv h b w).mono (same 6)
    · exact plic_write1 d off v hv k h2 h b w hp
    · exact (plic_write2 off v hv h b w).mono (same 6)
    · exact plic_write3 d off v hv k h2 h b w hp
    · exact plic_write4 d off v hv k h2 h b w hp
    · by_cases hV : 1 ≤ lo32 v ∧ lo32 v ≤ 7
      · rw [if_pos hV]; exact plic_write5 d hd off v hv hV.1 hV.2 k h2 h b w hp
      · rw [if_neg hV]; exact (plic_write5n off v hv hV k h b w).mono (same 0)
  · rw [if_neg hs]
    exact (plic_write_size off size v (by simpa using hs) b w).mono (same 6)
/-- whatever is read -/
theorem plic_read_any (d : Dev) (hd : d.Ok) (off size : Int) (b : Nat) (w : World) (hp : PlicAt w b d) :
    Calls Try.prog 28 #[.pointer (some ⟨b, 0, none⟩), .int .u64 off, .int .i64 size] w fun e w' => e = .returned (.tuple #[.int .u64 ((d.read off size).1 : Nat), .int .i64 (d.read off size).2.1]) ∧ PlicSet w b (d.read off size).2.2 w' := by
  have same : ∀ (v : Nat) (k : Int) (e : Ending) (w' : World), (e = .returned (.tuple #[.int .u64 v, .int .i64 k]) ∧ w = w') → e = .returned (.tuple #[.int .u64 v, .int .i64 k]) ∧ PlicSet w b d w' := by
    rintro v k e w' ⟨rfl, rfl⟩; exact ⟨rfl, hp, grown_refl _ _⟩
  unfold Dev.read
  by_cases hs : size = 4
  · subst hs
    rw [if_pos rfl]
    rcases place_cases off with h | ⟨k, h1, h2, h⟩ | h | ⟨k, h2, h⟩ | ⟨k, h2, h⟩ | ⟨k, h2, h⟩ <;> simp only [h, Int.toNat_natCast, if_pos, if_neg, reduceIte, Int.reduceEq]
    · exact (plic_read0 off h b w).mono (same 0 6)
    · exact (plic_read1 d hd off k h2 h b w hp).mono (same _ 0)
    · exact (plic_read2 d hd off h b w hp).mono (same _ 0)
    · exact (plic_read3 d hd off k h2 h b w hp).mono (same _ 0)
    · exact (plic_read4 d hd off k h2 h b w hp).mono (same _ 0)
    · by_cases hz : d.best k = 0
      · rw [hz, if_pos rfl]
        refine (plic_read5z d hd off k h2 h b w hp hz).mono ?_
        rintro e w' ⟨rfl, n, rfl⟩
        exact ⟨rfl, hp, grown_drewN (grown_refl _ _) _⟩
      · rw [if_neg hz]; exact plic_read5 d hd off k h2 h b w hp (by omega)
  · rw [if_neg hs]
    exact (plic_read_size off size (by simpa using hs) b w).mono (same 0 6)
end Go.Proofs.Ytebdbbpefmgooaa
