/- Contract of the soc's Write at a device, and of a nil one. Contracts of the soc's small methods, and of a nil one. No condition. Contracts of a nil soc: Serve, Devices. RamNil: the walk. No condition. Contracts of tappethelp.Own, Same, Plain, Kept, CopyBytes. No condition. Bytes and bools that came in, as the walks take them. No condition. RomLoads: the walk. No condition. Contract of soc.New without an image. No condition. The soc as a call that made it sees it; the laws' first test: awake. No condition. -/
import Derived.Test.YtefcdbpmpnmkjaaPack5
import Derived.Test.YtefcdbpmpnmkjaaPack2
import Derived.StillTailTactics
import Derived.BigRegion
import Derived.Deep.RegionWith
import Derived.Deep.RegionHeld3
import Derived.Deep.QuietTactic
import Derived.BigQuiet
import Derived.Deep.DeepFit
import Derived.Deep.DeepMust
import Derived.Handy
import Derived.Test.YtefcdbpmpnmkjaaPack3
import Derived.Test.YtefcdbpmpnmkjaaPack4
import Derived.Deep.LoopGhost
import Derived.Deep.DeepCutAuto
import Derived.Test.YtefcdbpmpnmkjaaPack1
import Derived.Deep.OwnRows
section
set_option linter.unusedVariables false
set_option linter.unusedSimpArgs false
namespace Go.Proofs.Ytefcdbpmpnmkjaa
open Go.RowKit
set_option maxRecDepth 100000
theorem clint_write_ok {c : ClintS} (h : c.Ok) {v : Nat} (hv : v < 2 ^ 64) (off size : Int) : (c.write off size v).2.Ok := by
  unfold ClintS.write
  repeat' split
  all_goals first | exact h | exact ⟨h.time, hv⟩ | exact ⟨hv, h.cmp⟩ | exact ⟨h.time, h.cmp⟩
theorem SocTo.after {w w1 w2 : World} {β : SocB} {σ : SocS} {S S1 : Nat → Prop} (h : TT w w1 S S1) (k : SocTo w1 w2 β σ S1) : SocTo w w2 β σ S := by
  obtain ⟨S', h1, h2, h3⟩ := k
  have := h.step ⟨h2, h3⟩
  exact ⟨S', h1, this.1, this.2⟩
theorem sz_of {n : Nat} {x size kind : Int} (h : socErr n x size kind = 0) : size = 1 ∨ size = 2 ∨ size = 4 ∨ size = 8 := by
  unfold socErr at h
  split at h
  · rename_i hh
    unfold sz1248 at hh
    simp at hh
    omega
  · cases h
def WroteIs (w : World) (β : SocB) (r : Int × SocS) (S : Nat → Prop) (e : Ending) (w' : World) : Prop := e = .returned (.int .i64 r.1) ∧ SocTo w w' β r.2 S
def er6 (e : Int) : Int := if e = 0 then 0 else 6
def SocS.write2 (σ : SocS) (x : Nat) (size : Int) (v : Nat) : Int × SocS := (er6 (σ.c.write (pmaFind σ.n x).2.2.2 size v).1, ({ σ with c := (σ.c.write (pmaFind σ.n x).2.2.2 size v).2 } : SocS).note ⟨σ.cycle, x, size, true, v, er6 (σ.c.write (pmaFind σ.n x).2.2.2 size v).1 != 0⟩)
def SocS.write3 (σ : SocS) (x : Nat) (size : Int) (v : Nat) : Int × SocS := (er6 (σ.p.write (pmaFind σ.n x).2.2.2 size v).1, ({ σ with p := (σ.p.write (pmaFind σ.n x).2.2.2 size v).2 } : SocS).note ⟨σ.cycle, x, size, true, v, er6 (σ.p.write (pmaFind σ.n x).2.2.2 size v).1 != 0⟩)
def SocS.write4 (σ : SocS) (x : Nat) (size : Int) (v : Nat) : Int × SocS := (er6 (σ.u.write (pmaFind σ.n x).2.2.2 size v).1, ({ σ with u := (σ.u.write (pmaFind σ.n x).2.2.2 size v).2 } : SocS).note ⟨σ.cycle, x, size, true, v, er6 (σ.u.write (pmaFind σ.n x).2.2.2 size v).1 != 0⟩)
theorem na2_Write (b : Nat) (w : World) : (nilAhead 248 66 (.pointer (some ⟨b, 0, none⟩)) "Write").run Try.prog w = .ok (some false) w := by kernel_rfl
theorem me2_Write (b : Nat) (w : World) : (method 248 66 (.pointer (some ⟨b, 0, none⟩)) "Write").run Try.prog w = .ok (87, .pointer (some ⟨b, 0, none⟩)) w := by kernel_rfl
theorem na3_Write (b : Nat) (w : World) : (nilAhead 248 68 (.pointer (some ⟨b, 0, none⟩)) "Write").run Try.prog w = .ok (some false) w := by kernel_rfl
theorem me3_Write (b : Nat) (w : World) : (method 248 68 (.pointer (some ⟨b, 0, none⟩)) "Write").run Try.prog w = .ok (90, .pointer (some ⟨b, 0, none⟩)) w := by kernel_rfl
theorem na4_Write (b : Nat) (w : World) : (nilAhead 248 70 (.pointer (some ⟨b, 0, none⟩)) "Write").run Try.prog w = .ok (some false) w := by kernel_rfl
theorem me4_Write (b : Nat) (w : World) : (method 248 70 (.pointer (some ⟨b, 0, none⟩)) "Write").run Try.prog w = .ok (93, .pointer (some ⟨b, 0, none⟩)) w := by kernel_rfl
theorem soc_write_nil (x size v : Int) (w : World) : Calls Try.prog 9 #[.pointer none, .int .u64 x, .int .i64 size, .int .u64 v] w fun e w' => e = .returned (.int .i64 2) ∧ w = w' := by
  have HM := Lib.hid (soc_may_nil x size 2)
  go_enter Try.func9, Try.ntmps9
  go_wp2_with fail
  refine (HM.out _).mono ?_
  rintro e w1 ⟨rfl, rfl⟩
  go_wp2
  go_ret
  exact ⟨rfl, rfl⟩
theorem soc_read_nil (x size : Int) (w : World) : Calls Try.prog 12 #[.pointer none, .int .u64 x, .int .i64 size] w fun e w' => e = .returned (.tuple #[.int .u64 0, .int .i64 2]) ∧ w = w' := by
  have HM := Lib.hid (soc_may_nil x size 1)
  go_enter Try.func12, Try.ntmps12
  go_wp2_with fail
  refine (HM.out _).mono ?_
  rintro e w1 ⟨rfl, rfl⟩
  go_wp2
  go_ret2
  exact ⟨rfl, rfl⟩
set_option maxHeartbeats 4000000 in
theorem soc_write2 {w : World} {β : SocB} {σ : SocS} {lg sn : Value} {SR : Nat → Prop} (h : SocIs w β σ lg sn SR) (x : Nat) (hx : x < 2 ^ 64) (size : Int) (v : Nat) (hv : v < 2 ^ 64) (hm : socErr σ.n x size 2 = 0) (hk : (pmaFind σ.n x).1 = 2) (hlen : σ.log.length < 1000000) (hsn : σ.u.sent.length < 1000000) :
    Calls Try.prog 9 #[.pointer (some ⟨β.s, 0, none⟩), .int .u64 x, .int .i64 size, .int .u64 v] w (WroteIs w β (σ.write2 x size (Zx size v)) (SocOwn β lg sn SR)) := by
  have hlo := h.r.lo
  have HM : Hid (∀ W, Below w.heap.size w W → Calls Try.prog 25 #[.pointer (some ⟨β.s, 0, none⟩), .int .u64 x, .int .i64 size, .int .i64 2] W (fun e w' => e = .returned (.int .i64 0) ∧ Below w.heap.size w w')) := fun W hb => (soc_may (h.below hb) x (by omega) (by omega) size 2 (.inr rfl)).mono fun e w' ⟨h1, h2⟩ => ⟨by rw [h1, hm], below_then hb h2 hb.size⟩
  have hsz : size = 1 ∨ size = 2 ∨ size = 4 ∨ size = 8 := sz_of hm
  have HZ : Hid (∀ W, Calls Try.prog 26 #[.int .u64 v, .int .i64 (8 * size)] W fun e w' => e = .returned (.int .u64 (Zx size v : Nat)) ∧ W = w') := fun W => bits_zext v hv size hsz W
  have ez : IntKind.i64.wrap (8 * size) = 8 * size := by rw [IntKind.wrap_i64]; omega
  have HP : Hid (∀ W, Below w.heap.size w W → Calls Try.prog 29 #[.pointer (some ⟨β.r, 0, none⟩)] W fun e w' => e = .returned (.int .i64 σ.n) ∧ W = w') := fun W hb => ram_pages (h.below hb).r
  have HR : Hid (∀ W, Calls Try.prog 28 #[.int .i64 σ.n, .int .u64 x] W fun e w' => e = .returned (.int .i64 2) ∧ Below W.heap.size W w') := fun W => by rw [← hk]; exact pma_region σ.n hlo.1 hlo.2 x (by omega) (by omega) W
  have HO : Hid (∀ W, Calls Try.prog 30 #[.int .i64 σ.n, .int .u64 x] W fun e w' => e = .returned (.int .u64 (pmaFind σ.n x).2.2.2) ∧ Below W.heap.size W w') := fun W => pma_offset σ.n hlo.1 hlo.2 x (by omega) (by omega) W
  have H := Lib.hid h
  have HLN := Lib.hid hlen; have HSN := Lib.hid hsn
  have HZV : Hid (Zx size v < 2 ^ 64) := Nat.lt_of_le_of_lt (Nat.mod_le _ _) hv
  have HF : Hid (∀ e w', WroteIs w β (σ.write2 x size (Zx size v)) (SocOwn β lg sn SR) e w' ↔ (e = .returned (.int .i64 (σ.write2 x size (Zx size v)).1) ∧ SocTo w w' β (σ.write2 x size (Zx size v)).2 (SocOwn β lg sn SR))) := fun _ _ => Iff.rfl
  clear h hx hv hm hk hlen hsn hlo hsz
  have hna := na2_Write β.c
  have hme := me2_Write β.c
  go_enter Try.func9, Try.ntmps9
  go_wp2_with fail
  refine (HM.out _ (Below.refl _ _)).mono ?_
  rintro e w1 ⟨rfl, hb⟩
  have HB1 := Lib.hid hb
  clear hb
  go_wp2_with fail
  refine (HZ.out _).mono ?_
  rintro e w1 ⟨rfl, rfl⟩
  go_wp2_with fail
  refine wp_region_held_drew (S := fun wq => wq.heap[β.s]? = some (.cells (socCells β σ lg) 75 (0, 0))) (by kernel_rfl) (H.out.below HB1.out).at_ (fun hH => ?_)
  refine wpAnyH_take (i := 0) (oi := ⟨some 25, _, _, _, _, _⟩) (v := ?_) rfl (by kernel_rfl) (by kernel_rfl) (by kernel_rfl) (fun _ _ _ h => h) (Or.inl ⟨by kernel_rfl, ?_⟩) hH ?_
  rotate_left 1
  · intro wq hq; have r0 : wq.cell? ⟨β.s, 0, none⟩ = some (.pointer (some ⟨β.c, 0, none⟩)) := blk_cell hq 0; have r1 : wq.cell? ⟨β.s, 1, none⟩ = some (.pointer (some ⟨β.p, 0, none⟩)) := blk_cell hq 1; have r2 : wq.cell? ⟨β.s, 2, none⟩ = some (.pointer (some ⟨β.u, 0, none⟩)) := blk_cell hq 2; have r3 : wq.cell? ⟨β.s, 3, none⟩ = some (.pointer (some ⟨β.r, 0, none⟩)) := blk_cell hq 3; clear hq; first | (go_simp; done) | (go_simp; with_reducible rfl)
  simp only [Act.put, List.setIfInBounds_toArray, List.set_cons_zero, List.set_cons_succ]
  refine wpAnyH_take (i := 1) (oi := ⟨some 26, _, _, _, _, _⟩) (v := ?_) rfl (by kernel_rfl) (by kernel_rfl) (by kernel_rfl) (fun _ _ _ h => h) (Or.inl ⟨by kernel_rfl, ?_⟩) hH ?_
  rotate_left 1
  · intro wq hq; have r0 : wq.cell? ⟨β.s, 0, none⟩ = some (.pointer (some ⟨β.c, 0, none⟩)) := blk_cell hq 0; have r1 : wq.cell? ⟨β.s, 1, none⟩ = some (.pointer (some ⟨β.p, 0, none⟩)) := blk_cell hq 1; have r2 : wq.cell? ⟨β.s, 2, none⟩ = some (.pointer (some ⟨β.u, 0, none⟩)) := blk_cell hq 2; have r3 : wq.cell? ⟨β.s, 3, none⟩ = some (.pointer (some ⟨β.r, 0, none⟩)) := blk_cell hq 3; clear hq; first | (go_simp; done) | (go_simp; with_reducible rfl)
  simp only [Act.put, List.setIfInBounds_toArray, List.set_cons_zero, List.set_cons_succ]
  refine wpAnyH_take (i := 2) (oi := ⟨some 27, _, _, _, _, _⟩) (v := ?_) rfl (by kernel_rfl) (by kernel_rfl) (by kernel_rfl) (fun _ _ _ h => h) (Or.inl ⟨by kernel_rfl, ?_⟩) hH ?_
  rotate_left 1
  · intro wq hq; have r0 : wq.cell? ⟨β.s, 0, none⟩ = some (.pointer (some ⟨β.c, 0, none⟩)) := blk_cell hq 0; have r1 : wq.cell? ⟨β.s, 1, none⟩ = some (.pointer (some ⟨β.p, 0, none⟩)) := blk_cell hq 1; have r2 : wq.cell? ⟨β.s, 2, none⟩ = some (.pointer (some ⟨β.u, 0, none⟩)) := blk_cell hq 2; have r3 : wq.cell? ⟨β.s, 3, none⟩ = some (.pointer (some ⟨β.r, 0, none⟩)) := blk_cell hq 3; clear hq; first | (go_simp; done) | (go_simp; with_reducible rfl)
  simp only [Act.put, List.setIfInBounds_toArray, List.set_cons_zero, List.set_cons_succ]
  refine wpAnyH_take (i := 3) (oi := ⟨some 28, _, _, _, _, _⟩) (v := ?_) rfl (by kernel_rfl) (by kernel_rfl) (by kernel_rfl) (fun _ _ _ h => h) (Or.inl ⟨by kernel_rfl, ?_⟩) hH ?_
  rotate_left 1
  · intro wq hq; have r0 : wq.cell? ⟨β.s, 0, none⟩ = some (.pointer (some ⟨β.c, 0, none⟩)) := blk_cell hq 0; have r1 : wq.cell? ⟨β.s, 1, none⟩ = some (.pointer (some ⟨β.p, 0, none⟩)) := blk_cell hq 1; have r2 : wq.cell? ⟨β.s, 2, none⟩ = some (.pointer (some ⟨β.u, 0, none⟩)) := blk_cell hq 2; have r3 : wq.cell? ⟨β.s, 3, none⟩ = some (.pointer (some ⟨β.r, 0, none⟩)) := blk_cell hq 3; clear hq; first | (go_simp; done) | (go_simp; with_reducible rfl)
  simp only [Act.put, List.setIfInBounds_toArray, List.set_cons_zero, List.set_cons_succ]
  refine wpAnyH_take (i := 4) (oi := ⟨some 29, _, _, _, _, _⟩) (v := ?_) rfl (by kernel_rfl) (by kernel_rfl) (by kernel_rfl) (fun _ _ _ h => h) (Or.inl ⟨by kernel_rfl, ?_⟩) hH ?_
  rotate_left 1
  · intro wq hq; have r0 : wq.cell? ⟨β.s, 0, none⟩ = some (.pointer (some ⟨β.c, 0, none⟩)) := blk_cell hq 0; have r1 : wq.cell? ⟨β.s, 1, none⟩ = some (.pointer (some ⟨β.p, 0, none⟩)) := blk_cell hq 1; have r2 : wq.cell? ⟨β.s, 2, none⟩ = some (.pointer (some ⟨β.u, 0, none⟩)) := blk_cell hq 2; have r3 : wq.cell? ⟨β.s, 3, none⟩ = some (.pointer (some ⟨β.r, 0, none⟩)) := blk_cell hq 3; clear hq; first | (go_simp; done) | (go_simp; with_reducible rfl)
  simp only [Act.put, List.setIfInBounds_toArray, List.set_cons_zero, List.set_cons_succ]
  refine wpAnyH_take (i := 5) (oi := ⟨some 30, _, _, _, _, _⟩) (v := ?_) rfl (by kernel_rfl) (by kernel_rfl) (by kernel_rfl) (fun _ _ _ h => h) (Or.inl ⟨by kernel_rfl, ?_⟩) hH ?_
  rotate_left 1
  · intro wq hq; have r0 : wq.cell? ⟨β.s, 0, none⟩ = some (.pointer (some ⟨β.c, 0, none⟩)) := blk_cell hq 0; have r1 : wq.cell? ⟨β.s, 1, none⟩ = some (.pointer (some ⟨β.p, 0, none⟩)) := blk_cell hq 1; have r2 : wq.cell? ⟨β.s, 2, none⟩ = some (.pointer (some ⟨β.u, 0, none⟩)) := blk_cell hq 2; have r3 : wq.cell? ⟨β.s, 3, none⟩ = some (.pointer (some ⟨β.r, 0, none⟩)) := blk_cell hq 3; clear hq; first | (go_simp; done) | (go_simp; with_reducible rfl)
  simp only [Act.put, List.setIfInBounds_toArray, List.set_cons_zero, List.set_cons_succ]
  refine wpAnyH_take (i := 6) (oi := ⟨some 31, _, _, _, _, _⟩) (v := ?_) rfl (by kernel_rfl) (by kernel_rfl) (by kernel_rfl) (fun _ _ _ h => h) (Or.inl ⟨by kernel_rfl, ?_⟩) hH ?_
  rotate_left 1
  · intro wq hq; have r0 : wq.cell? ⟨β.s, 0, none⟩ = some (.pointer (some ⟨β.c, 0, none⟩)) := blk_cell hq 0; have r1 : wq.cell? ⟨β.s, 1, none⟩ = some (.pointer (some ⟨β.p, 0, none⟩)) := blk_cell hq 1; have r2 : wq.cell? ⟨β.s, 2, none⟩ = some (.pointer (some ⟨β.u, 0, none⟩)) := blk_cell hq 2; have r3 : wq.cell? ⟨β.s, 3, none⟩ = some (.pointer (some ⟨β.r, 0, none⟩)) := blk_cell hq 3; clear hq; first | (go_simp; done) | (go_simp; with_reducible rfl)
  simp only [Act.put, List.setIfInBounds_toArray, List.set_cons_zero, List.set_cons_succ]
  refine wpAnyH_take (i := 7) (oi := ⟨some 32, _, _, _, _, _⟩) (v := ?_) rfl (by kernel_rfl) (by kernel_rfl) (by kernel_rfl) (fun _ _ _ h => h) (Or.inl ⟨by kernel_rfl, ?_⟩) hH ?_
  rotate_left 1
  · intro wq hq; have r0 : wq.cell? ⟨β.s, 0, none⟩ = some (.pointer (some ⟨β.c, 0, none⟩)) := blk_cell hq 0; have r1 : wq.cell? ⟨β.s, 1, none⟩ = some (.pointer (some ⟨β.p, 0, none⟩)) := blk_cell hq 1; have r2 : wq.cell? ⟨β.s, 2, none⟩ = some (.pointer (some ⟨β.u, 0, none⟩)) := blk_cell hq 2; have r3 : wq.cell? ⟨β.s, 3, none⟩ = some (.pointer (some ⟨β.r, 0, none⟩)) := blk_cell hq 3; clear hq; first | (go_simp; done) | (go_simp; with_reducible rfl)
  simp only [Act.put, List.setIfInBounds_toArray, List.set_cons_zero, List.set_cons_succ]
  refine wpAnyH_take (i := 9) (oi := ⟨some 34, _, _, _, _, _⟩) (v := ?_) rfl (by kernel_rfl) (by kernel_rfl) (by kernel_rfl) (fun _ _ _ h => h) (Or.inl ⟨by kernel_rfl, ?_⟩) hH ?_
  rotate_left 1
  · intro wq hq; have r0 : wq.cell? ⟨β.s, 0, none⟩ = some (.pointer (some ⟨β.c, 0, none⟩)) := blk_cell hq 0; have r1 : wq.cell? ⟨β.s, 1, none⟩ = some (.pointer (some ⟨β.p, 0, none⟩)) := blk_cell hq 1; have r2 : wq.cell? ⟨β.s, 2, none⟩ = some (.pointer (some ⟨β.u, 0, none⟩)) := blk_cell hq 2; have r3 : wq.cell? ⟨β.s, 3, none⟩ = some (.pointer (some ⟨β.r, 0, none⟩)) := blk_cell hq 3; clear hq; first | (go_simp; done) | (go_simp; with_reducible rfl)
  simp only [Act.put, List.setIfInBounds_toArray, List.set_cons_zero, List.set_cons_succ]
  refine wpAnyH_ready (rs := [8]) (by kernel_rfl) (by simp) (AllReadyH.cons (o := ⟨some 33, _, _, _, _, _⟩) rfl (fun K hK => ?_) AllReadyH.nil)
  go_simp
  refine (HP.out _ HB1.out.drew).mono ?_
  rintro e w2 ⟨rfl, rfl⟩
  go_wp2_with fail
  refine hK.out _ _ hH (fun hH => ?_)
  clear hK K
  try simp only [Act.put, List.setIfInBounds_toArray, List.set_cons_zero, List.set_cons_succ]
  refine wpAnyH_ready (rs := [10]) (by kernel_rfl) (by simp) (AllReadyH.cons (o := ⟨some 35, _, _, _, _, _⟩) rfl (fun K hK => ?_) AllReadyH.nil)
  go_simp
  refine (HR.out _).mono ?_
  rintro e w2 ⟨rfl, hb⟩
  have HB2 : Hid (Below w.heap.size w w2) := below_then HB1.out.drew hb HB1.out.size
  clear hb
  go_wp2_with fail
  refine hK.out _ _ (H.out.below HB2.out).at_ (fun hH => ?_)
  clear hK K
  try simp only [Act.put, List.setIfInBounds_toArray, List.set_cons_zero, List.set_cons_succ]
  refine wpAnyH_ready (rs := [11]) (by kernel_rfl) (by simp) (AllReadyH.cons (o := ⟨some 36, _, _, _, _, _⟩) rfl (fun K hK => ?_) AllReadyH.nil)
  go_simp
  refine (soc_at2 _ _ _ _).mono ?_
  rintro e w3 ⟨rfl, hb⟩
  have HB3 : Hid (Below w.heap.size w w3) := below_then HB2.out hb HB2.out.size
  clear hb HB1 HB2
  go_wp2_with fail
  refine hK.out _ _ (H.out.below HB3.out).at_ (fun hH => ?_)
  clear hK K
  try simp only [Act.put, List.setIfInBounds_toArray, List.set_cons_zero, List.set_cons_succ]
  refine wpAnyH_take (i := 12) (oi := ⟨some 24, _, _, _, _, _⟩) (v := ?_) rfl (by kernel_rfl) (by kernel_rfl) (by kernel_rfl) (fun _ _ _ h => h) (Or.inl ⟨by kernel_rfl, ?_⟩) hH ?_
  rotate_left 1
  · intro wq hq; have r0 : wq.cell? ⟨β.s, 0, none⟩ = some (.pointer (some ⟨β.c, 0, none⟩)) := blk_cell hq 0; have r1 : wq.cell? ⟨β.s, 1, none⟩ = some (.pointer (some ⟨β.p, 0, none⟩)) := blk_cell hq 1; have r2 : wq.cell? ⟨β.s, 2, none⟩ = some (.pointer (some ⟨β.u, 0, none⟩)) := blk_cell hq 2; have r3 : wq.cell? ⟨β.s, 3, none⟩ = some (.pointer (some ⟨β.r, 0, none⟩)) := blk_cell hq 3; clear hq; first | (go_simp; done) | (go_simp; with_reducible rfl)
  simp only [Act.put, List.setIfInBounds_toArray, List.set_cons_zero, List.set_cons_succ]
  refine wpAnyH_take (i := 13) (oi := ⟨some 37, _, _, _, _, _⟩) (v := ?_) rfl (by kernel_rfl) (by kernel_rfl) (by kernel_rfl) (fun _ _ _ h => h) (Or.inl ⟨by kernel_rfl, ?_⟩) hH ?_
  rotate_left 1
  · intro wq hq; have r0 : wq.cell? ⟨β.s, 0, none⟩ = some (.pointer (some ⟨β.c, 0, none⟩)) := blk_cell hq 0; have r1 : wq.cell? ⟨β.s, 1, none⟩ = some (.pointer (some ⟨β.p, 0, none⟩)) := blk_cell hq 1; have r2 : wq.cell? ⟨β.s, 2, none⟩ = some (.pointer (some ⟨β.u, 0, none⟩)) := blk_cell hq 2; have r3 : wq.cell? ⟨β.s, 3, none⟩ = some (.pointer (some ⟨β.r, 0, none⟩)) := blk_cell hq 3; clear hq; first | (go_simp; done) | (go_simp; with_reducible rfl)
  simp only [Act.put, List.setIfInBounds_toArray, List.set_cons_zero, List.set_cons_succ]
  refine wpAnyH_take (i := 14) (oi := ⟨some 38, _, _, _, _, _⟩) (v := ?_) rfl (by kernel_rfl) (by kernel_rfl) (by kernel_rfl) (fun _ _ _ h => h) (Or.inl ⟨by kernel_rfl, ?_⟩) hH ?_
  rotate_left 1
  · intro wq hq; have r0 : wq.cell? ⟨β.s, 0, none⟩ = some (.pointer (some ⟨β.c, 0, none⟩)) := blk_cell hq 0; have r1 : wq.cell? ⟨β.s, 1, none⟩ = some (.pointer (some ⟨β.p, 0, none⟩)) := blk_cell hq 1; have r2 : wq.cell? ⟨β.s, 2, none⟩ = some (.pointer (some ⟨β.u, 0, none⟩)) := blk_cell hq 2; have r3 : wq.cell? ⟨β.s, 3, none⟩ = some (.pointer (some ⟨β.r, 0, none⟩)) := blk_cell hq 3; clear hq; first | (go_simp; done) | (go_simp; with_reducible rfl)
  simp only [Act.put, List.setIfInBounds_toArray, List.set_cons_zero, List.set_cons_succ]
  refine wpAnyH_take (i := 15) (oi := ⟨some 10, _, _, _, _, _⟩) (v := ?_) rfl (by kernel_rfl) (by kernel_rfl) (by kernel_rfl) (fun _ _ _ h => h) (Or.inl ⟨by kernel_rfl, ?_⟩) hH ?_
  rotate_left 1
  · intro wq hq; have r0 : wq.cell? ⟨β.s, 0, none⟩ = some (.pointer (some ⟨β.c, 0, none⟩)) := blk_cell hq 0; have r1 : wq.cell? ⟨β.s, 1, none⟩ = some (.pointer (some ⟨β.p, 0, none⟩)) := blk_cell hq 1; have r2 : wq.cell? ⟨β.s, 2, none⟩ = some (.pointer (some ⟨β.u, 0, none⟩)) := blk_cell hq 2; have r3 : wq.cell? ⟨β.s, 3, none⟩ = some (.pointer (some ⟨β.r, 0, none⟩)) := blk_cell hq 3; clear hq; first | (go_simp; done) | (go_simp; with_reducible rfl)
  simp only [Act.put, List.setIfInBounds_toArray, List.set_cons_zero, List.set_cons_succ]
  refine wpAnyH_take (i := 16) (oi := ⟨some 11, _, _, _, _, _⟩) (v := ?_) rfl (by kernel_rfl) (by kernel_rfl) (by kernel_rfl) (fun _ _ _ h => h) (Or.inl ⟨by kernel_rfl, ?_⟩) hH ?_
  rotate_left 1
  · intro wq hq; have r0 : wq.cell? ⟨β.s, 0, none⟩ = some (.pointer (some ⟨β.c, 0, none⟩)) := blk_cell hq 0; have r1 : wq.cell? ⟨β.s, 1, none⟩ = some (.pointer (some ⟨β.p, 0, none⟩)) := blk_cell hq 1; have r2 : wq.cell? ⟨β.s, 2, none⟩ = some (.pointer (some ⟨β.u, 0, none⟩)) := blk_cell hq 2; have r3 : wq.cell? ⟨β.s, 3, none⟩ = some (.pointer (some ⟨β.r, 0, none⟩)) := blk_cell hq 3; clear hq; first | (go_simp; done) | (go_simp; with_reducible rfl)
  simp only [Act.put, List.setIfInBounds_toArray, List.set_cons_zero, List.set_cons_succ]
  refine wpAnyH_done (by kernel_rfl) ?_ _
  clear hH
  go_wp2_with fail
  refine wp_region_held_drew (S := fun wq => wq.heap[β.s]? = some (.cells (socCells β σ lg) 75 (0, 0))) (by kernel_rfl) (H.out.below HB3.out).at_ (fun hH => ?_)
  refine wpAnyH_take (i := 0) (oi := ⟨some 40, _, _, _, _, _⟩) (v := ?_) rfl (by kernel_rfl) (by kernel_rfl) (by kernel_rfl) (fun _ _ _ h => h) (Or.inl ⟨by kernel_rfl, ?_⟩) hH ?_
  rotate_left 1
  · intro wq hq; have r0 : wq.cell? ⟨β.s, 0, none⟩ = some (.pointer (some ⟨β.c, 0, none⟩)) := blk_cell hq 0; have r1 : wq.cell? ⟨β.s, 1, none⟩ = some (.pointer (some ⟨β.p, 0, none⟩)) := blk_cell hq 1; have r2 : wq.cell? ⟨β.s, 2, none⟩ = some (.pointer (some ⟨β.u, 0, none⟩)) := blk_cell hq 2; have r3 : wq.cell? ⟨β.s, 3, none⟩ = some (.pointer (some ⟨β.r, 0, none⟩)) := blk_cell hq 3; clear hq; first | (go_simp; done) | (go_simp; with_reducible rfl)
  simp only [Act.put, List.setIfInBounds_toArray, List.set_cons_zero, List.set_cons_succ]
  refine wpAnyH_take (i := 1) (oi := ⟨some 41, _, _, _, _, _⟩) (v := ?_) rfl (by kernel_rfl) (by kernel_rfl) (by kernel_rfl) (fun _ _ _ h => h) (Or.inl ⟨by kernel_rfl, ?_⟩) hH ?_
  rotate_left 1
  · intro wq hq; have r0 : wq.cell? ⟨β.s, 0, none⟩ = some (.pointer (some ⟨β.c, 0, none⟩)) := blk_cell hq 0; have r1 : wq.cell? ⟨β.s, 1, none⟩ = some (.pointer (some ⟨β.p, 0, none⟩)) := blk_cell hq 1; have r2 : wq.cell? ⟨β.s, 2, none⟩ = some (.pointer (some ⟨β.u, 0, none⟩)) := blk_cell hq 2; have r3 : wq.cell? ⟨β.s, 3, none⟩ = some (.pointer (some ⟨β.r, 0, none⟩)) := blk_cell hq 3; clear hq; first | (go_simp; done) | (go_simp; with_reducible rfl)
  simp only [Act.put, List.setIfInBounds_toArray, List.set_cons_zero, List.set_cons_succ]
  refine wpAnyH_take (i := 2) (oi := ⟨some 42, _, _, _, _, _⟩) (v := ?_) rfl (by kernel_rfl) (by kernel_rfl) (by kernel_rfl) (fun _ _ _ h => h) (Or.inl ⟨by kernel_rfl, ?_⟩) hH ?_
  rotate_left 1
  · intro wq hq; have r0 : wq.cell? ⟨β.s, 0, none⟩ = some (.pointer (some ⟨β.c, 0, none⟩)) := blk_cell hq 0; have r1 : wq.cell? ⟨β.s, 1, none⟩ = some (.pointer (some ⟨β.p, 0, none⟩)) := blk_cell hq 1; have r2 : wq.cell? ⟨β.s, 2, none⟩ = some (.pointer (some ⟨β.u, 0, none⟩)) := blk_cell hq 2; have r3 : wq.cell? ⟨β.s, 3, none⟩ = some (.pointer (some ⟨β.r, 0, none⟩)) := blk_cell hq 3; clear hq; first | (go_simp; done) | (go_simp; with_reducible rfl)
  simp only [Act.put, List.setIfInBounds_toArray, List.set_cons_zero, List.set_cons_succ]
  refine wpAnyH_take (i := 3) (oi := ⟨some 43, _, _, _, _, _⟩) (v := ?_) rfl (by kernel_rfl) (by kernel_rfl) (by kernel_rfl) (fun _ _ _ h => h) (Or.inl ⟨by kernel_rfl, ?_⟩) hH ?_
  rotate_left 1
  · intro wq hq; have r0 : wq.cell? ⟨β.s, 0, none⟩ = some (.pointer (some ⟨β.c, 0, none⟩)) := blk_cell hq 0; have r1 : wq.cell? ⟨β.s, 1, none⟩ = some (.pointer (some ⟨β.p, 0, none⟩)) := blk_cell hq 1; have r2 : wq.cell? ⟨β.s, 2, none⟩ = some (.pointer (some ⟨β.u, 0, none⟩)) := blk_cell hq 2; have r3 : wq.cell? ⟨β.s, 3, none⟩ = some (.pointer (some ⟨β.r, 0, none⟩)) := blk_cell hq 3; clear hq; first | (go_simp; done) | (go_simp; with_reducible rfl)
  simp only [Act.put, List.setIfInBounds_toArray, List.set_cons_zero, List.set_cons_succ]
  refine wpAnyH_take (i := 4) (oi := ⟨some 44, _, _, _, _, _⟩) (v := ?_) rfl (by kernel_rfl) (by kernel_rfl) (by kernel_rfl) (fun _ _ _ h => h) (Or.inl ⟨by kernel_rfl, ?_⟩) hH ?_
  rotate_left 1
  · intro wq hq; have r0 : wq.cell? ⟨β.s, 0, none⟩ = some (.pointer (some ⟨β.c, 0, none⟩)) := blk_cell hq 0; have r1 : wq.cell? ⟨β.s, 1, none⟩ = some (.pointer (some ⟨β.p, 0, none⟩)) := blk_cell hq 1; have r2 : wq.cell? ⟨β.s, 2, none⟩ = some (.pointer (some ⟨β.u, 0, none⟩)) := blk_cell hq 2; have r3 : wq.cell? ⟨β.s, 3, none⟩ = some (.pointer (some ⟨β.r, 0, none⟩)) := blk_cell hq 3; clear hq; first | (go_simp; done) | (go_simp; with_reducible rfl)
  simp only [Act.put, List.setIfInBounds_toArray, List.set_cons_zero, List.set_cons_succ]
  refine wpAnyH_take (i := 6) (oi := ⟨some 46, _, _, _, _, _⟩) (v := ?_) rfl (by kernel_rfl) (by kernel_rfl) (by kernel_rfl) (fun _ _ _ h => h) (Or.inl ⟨by kernel_rfl, ?_⟩) hH ?_
  rotate_left 1
  · intro wq hq; have r0 : wq.cell? ⟨β.s, 0, none⟩ = some (.pointer (some ⟨β.c, 0, none⟩)) := blk_cell hq 0; have r1 : wq.cell? ⟨β.s, 1, none⟩ = some (.pointer (some ⟨β.p, 0, none⟩)) := blk_cell hq 1; have r2 : wq.cell? ⟨β.s, 2, none⟩ = some (.pointer (some ⟨β.u, 0, none⟩)) := blk_cell hq 2; have r3 : wq.cell? ⟨β.s, 3, none⟩ = some (.pointer (some ⟨β.r, 0, none⟩)) := blk_cell hq 3; clear hq; first | (go_simp; done) | (go_simp; with_reducible rfl)
  simp only [Act.put, List.setIfInBounds_toArray, List.set_cons_zero, List.set_cons_succ]
  refine wpAnyH_take (i := 8) (oi := ⟨some 48, _, _, _, _, _⟩) (v := ?_) rfl (by kernel_rfl) (by kernel_rfl) (by kernel_rfl) (fun _ _ _ h => h) (Or.inl ⟨by kernel_rfl, ?_⟩) hH ?_
  rotate_left 1
  · intro wq hq; have r0 : wq.cell? ⟨β.s, 0, none⟩ = some (.pointer (some ⟨β.c, 0, none⟩)) := blk_cell hq 0; have r1 : wq.cell? ⟨β.s, 1, none⟩ = some (.pointer (some ⟨β.p, 0, none⟩)) := blk_cell hq 1; have r2 : wq.cell? ⟨β.s, 2, none⟩ = some (.pointer (some ⟨β.u, 0, none⟩)) := blk_cell hq 2; have r3 : wq.cell? ⟨β.s, 3, none⟩ = some (.pointer (some ⟨β.r, 0, none⟩)) := blk_cell hq 3; clear hq; first | (go_simp; done) | (go_simp; with_reducible rfl)
  simp only [Act.put, List.setIfInBounds_toArray, List.set_cons_zero, List.set_cons_succ]
  refine wpAnyH_take (i := 9) (oi := ⟨some 49, _, _, _, _, _⟩) (v := ?_) rfl (by kernel_rfl) (by kernel_rfl) (by kernel_rfl) (fun _ _ _ h => h) (Or.inl ⟨by kernel_rfl, ?_⟩) hH ?_
  rotate_left 1
  · intro wq hq; have r0 : wq.cell? ⟨β.s, 0, none⟩ = some (.pointer (some ⟨β.c, 0, none⟩)) := blk_cell hq 0; have r1 : wq.cell? ⟨β.s, 1, none⟩ = some (.pointer (some ⟨β.p, 0, none⟩)) := blk_cell hq 1; have r2 : wq.cell? ⟨β.s, 2, none⟩ = some (.pointer (some ⟨β.u, 0, none⟩)) := blk_cell hq 2; have r3 : wq.cell? ⟨β.s, 3, none⟩ = some (.pointer (some ⟨β.r, 0, none⟩)) := blk_cell hq 3; clear hq; first | (go_simp; done) | (go_simp; with_reducible rfl)
  simp only [Act.put, List.setIfInBounds_toArray, List.set_cons_zero, List.set_cons_succ]
  refine wpAnyH_take (i := 10) (oi := ⟨some 50, _, _, _, _, _⟩) (v := ?_) rfl (by kernel_rfl) (by kernel_rfl) (by kernel_rfl) (fun _ _ _ h => h) (Or.inl ⟨by kernel_rfl, ?_⟩) hH ?_
  rotate_left 1
  · intro wq hq; have r0 : wq.cell? ⟨β.s, 0, none⟩ = some (.pointer (some ⟨β.c, 0, none⟩)) := blk_cell hq 0; have r1 : wq.cell? ⟨β.s, 1, none⟩ = some (.pointer (some ⟨β.p, 0, none⟩)) := blk_cell hq 1; have r2 : wq.cell? ⟨β.s, 2, none⟩ = some (.pointer (some ⟨β.u, 0, none⟩)) := blk_cell hq 2; have r3 : wq.cell? ⟨β.s, 3, none⟩ = some (.pointer (some ⟨β.r, 0, none⟩)) := blk_cell hq 3; clear hq; first | (go_simp; done) | (go_simp; with_reducible rfl)
  simp only [Act.put, List.setIfInBounds_toArray, List.set_cons_zero, List.set_cons_succ]
  refine wpAnyH_take (i := 11) (oi := ⟨some 51, _, _, _, _, _⟩) (v := ?_) rfl (by kernel_rfl) (by kernel_rfl) (by kernel_rfl) (fun _ _ _ h => h) (Or.inl ⟨by kernel_rfl, ?_⟩) hH ?_
  rotate_left 1
  · intro wq hq; have r0 : wq.cell? ⟨β.s, 0, none⟩ = some (.pointer (some ⟨β.c, 0, none⟩)) := blk_cell hq 0; have r1 : wq.cell? ⟨β.s, 1, none⟩ = some (.pointer (some ⟨β.p, 0, none⟩)) := blk_cell hq 1; have r2 : wq.cell? ⟨β.s, 2, none⟩ = some (.pointer (some ⟨β.u, 0, none⟩)) := blk_cell hq 2; have r3 : wq.cell? ⟨β.s, 3, none⟩ = some (.pointer (some ⟨β.r, 0, none⟩)) := blk_cell hq 3; clear hq; first | (go_simp; done) | (go_simp; with_reducible rfl)
  simp only [Act.put, List.setIfInBounds_toArray, List.set_cons_zero, List.set_cons_succ]
  refine wpAnyH_take (i := 12) (oi := ⟨some 52, _, _, _, _, _⟩) (v := ?_) rfl (by kernel_rfl) (by kernel_rfl) (by kernel_rfl) (fun _ _ _ h => h) (Or.inl ⟨by kernel_rfl, ?_⟩) hH ?_
  rotate_left 1
  · intro wq hq; have r0 : wq.cell? ⟨β.s, 0, none⟩ = some (.pointer (some ⟨β.c, 0, none⟩)) := blk_cell hq 0; have r1 : wq.cell? ⟨β.s, 1, none⟩ = some (.pointer (some ⟨β.p, 0, none⟩)) := blk_cell hq 1; have r2 : wq.cell? ⟨β.s, 2, none⟩ = some (.pointer (some ⟨β.u, 0, none⟩)) := blk_cell hq 2; have r3 : wq.cell? ⟨β.s, 3, none⟩ = some (.pointer (some ⟨β.r, 0, none⟩)) := blk_cell hq 3; clear hq; first | (go_simp; done) | (go_simp; with_reducible rfl)
  simp only [Act.put, List.setIfInBounds_toArray, List.set_cons_zero, List.set_cons_succ]
  refine wpAnyH_ready (rs := [5]) (by kernel_rfl) (by simp) (AllReadyH.cons (o := ⟨some 45, _, _, _, _, _⟩) rfl (fun K hK => ?_) AllReadyH.nil)
  go_simp
  refine (HP.out _ HB3.out.drew).mono ?_
  rintro e w4 ⟨rfl, rfl⟩
  go_wp2_with fail
  refine hK.out _ _ hH (fun hH => ?_)
  clear hK K
  try simp only [Act.put, List.setIfInBounds_toArray, List.set_cons_zero, List.set_cons_succ]
  refine wpAnyH_ready (rs := [7]) (by kernel_rfl) (by simp) (AllReadyH.cons (o := ⟨some 47, _, _, _, _, _⟩) rfl (fun K hK => ?_) AllReadyH.nil)
  go_simp
  refine (HO.out _).mono ?_
  rintro e w4 ⟨rfl, hb⟩
  have HB4 : Hid (Below w.heap.size w w4) := below_then HB3.out.drew hb HB3.out.size
  clear hb
  go_wp2_with fail
  have H4 := Lib.hid (H.out.below HB4.out)
  refine hK.out _ _ H4.out.at_ (fun hH => ?_)
  clear hK K hH
  try simp only [Act.put, List.setIfInBounds_toArray, List.set_cons_zero, List.set_cons_succ]
  refine wpAnyH_ready (rs := [13]) (by kernel_rfl) (by simp) (AllReadyH.cons (o := ⟨some 53, _, _, _, _, _⟩) rfl (fun K hK => ?_) AllReadyH.nil)
  go_simp
  refine (clint_write H4.out.c (pmaFind σ.n x).2.2.2 size (Zx size v) HZV.out).mono ?_
  rintro e w5 ⟨rfl, hd⟩
  obtain ⟨h5, t5⟩ := H4.out.clint_to hd (clint_write_ok H4.out.ok.c HZV.out _ _)
  obtain ⟨er, σ1, hr, HW⟩ : ∃ er σ1, er = (σ.c.write (pmaFind σ.n x).2.2.2 size (Zx size v)).1 ∧ Hid (σ1 = ({ σ with c := (σ.c.write (pmaFind σ.n x).2.2.2 size (Zx size v)).2 } : SocS)) := ⟨_, _, rfl, rfl⟩
  rw [← hr]
  have HW2 : Hid (σ.write2 x size (Zx size v) = (er6 er, σ1.note ⟨σ.cycle, x, size, true, Zx size v, er6 er != 0⟩)) := by show _ = _; rw [hr, HW.out]; rfl
  have HS1 : Hid (σ1.cycle = σ.cycle ∧ σ1.log = σ.log) := by rw [HW.out]; exact ⟨rfl, rfl⟩
  rw [← HW.out] at h5
  have hat : w5.heap[β.s]? = some (.cells (socCells β σ lg) 75 (0, 0)) := by have := h5.at_; rw [HW.out] at this; simp only [socCells] at this ⊢; exact this
  have HT5 : Hid (TT w w5 (SocOwn β lg sn SR) (SocOwn β lg sn SR)) := TT.step ⟨Turned.of_below HB4.out _, fun _ => .inl⟩ t5
  have H5 := Lib.hid h5
  have HAT := Lib.hid hat
  clear hr HW h5 t5 hat HB3 HB4 H4 HO HP HM HZ HR hd
  go_wp2_with fail
  refine hK.out _ _ HAT.out (fun hH => ?_)
  clear hK K
  try simp only [Act.put, List.setIfInBounds_toArray, List.set_cons_zero, List.set_cons_succ]
  refine wpAnyH_take (i := 14) (oi := ⟨some 12, _, _, _, _, _⟩) (v := ?_) rfl (by kernel_rfl) (by kernel_rfl) (by kernel_rfl) (fun _ _ _ h => h) (Or.inl ⟨by kernel_rfl, ?_⟩) hH ?_
  rotate_left 1
  · intro wq hq; have r0 : wq.cell? ⟨β.s, 0, none⟩ = some (.pointer (some ⟨β.c, 0, none⟩)) := blk_cell hq 0; have r1 : wq.cell? ⟨β.s, 1, none⟩ = some (.pointer (some ⟨β.p, 0, none⟩)) := blk_cell hq 1; have r2 : wq.cell? ⟨β.s, 2, none⟩ = some (.pointer (some ⟨β.u, 0, none⟩)) := blk_cell hq 2; have r3 : wq.cell? ⟨β.s, 3, none⟩ = some (.pointer (some ⟨β.r, 0, none⟩)) := blk_cell hq 3; clear hq; first | (go_simp; done) | (go_simp; with_reducible rfl)
  simp only [Act.put, List.setIfInBounds_toArray, List.set_cons_zero, List.set_cons_succ]
  refine wpAnyH_done (by kernel_rfl) ?_ _
  clear hH
  have HLEN1 : Hid (σ1.log.length < 1000000) := by show _ < _; rw [HS1.out.2]; exact HLN.out
  by_cases her : er = 0
  · subst her
    go_wp2_with fail
    refine (soc_note H5.out HLEN1.out x size true (Zx size v) 0).mono ?_
    rintro e w6 ⟨rfl, hto⟩
    have HTO := Lib.hid (SocTo.after HT5.out hto)
    clear hto
    go_wp2
    go_ret
    refine (HF.out _ _).2 ?_
    rw [HW2.out]
    refine ⟨rfl, ?_⟩
    have := HTO.out
    rw [HS1.out.1] at this
    exact this
  · have hne : (er != 0) = true := by simpa using her
    have h66 : er6 er = 6 := if_neg her
    rw [h66] at HW2
    clear h66 her
    go_wp2_with fail
    refine (soc_note H5.out HLEN1.out x size true (Zx size v) 6).mono ?_
    rintro e w6 ⟨rfl, hto⟩
    have HTO := Lib.hid (SocTo.after HT5.out hto)
    clear hto
    go_wp2
    go_ret
    refine (HF.out _ _).2 ?_
    rw [HW2.out]
    refine ⟨rfl, ?_⟩
    have := HTO.out
    rw [HS1.out.1] at this
    exact this
set_option maxHeartbeats 4000000 in
theorem soc_write3 {w : World} {β : SocB} {σ : SocS} {lg sn : Value} {SR : Nat → Prop} (h : SocIs w β σ lg sn SR) (x : Nat) (hx : x < 2 ^ 64) (size : Int) (v : Nat) (hv : v < 2 ^ 64) (hm : socErr σ.n x size 2 = 0) (hk : (pmaFind σ.n x).1 = 3) (hlen : σ.log.length < 1000000) (hsn : σ.u.sent.length < 1000000) :
    Calls Try.prog 9 #[.pointer (some ⟨β.s, 0, none⟩), .int .u64 x, .int .i64 size, .int .u64 v] w (WroteIs w β (σ.write3 x size (Zx size v)) (SocOwn β lg sn SR)) := by
  have hlo := h.r.lo
  have HM : Hid (∀ W, Below w.heap.size w W → Calls Try.prog 25 #[.pointer (some ⟨β.s, 0, none⟩), .int .u64 x, .int .i64 size, .int .i64 2] W (fun e w' => e = .returned (.int .i64 0) ∧ Below w.heap.size w w')) := fun W hb => (soc_may (h.below hb) x (by omega) (by omega) size 2 (.inr rfl)).mono fun e w' ⟨h1, h2⟩ => ⟨by rw [h1, hm], below_then hb h2 hb.size⟩
  have hsz : size = 1 ∨ size = 2 ∨ size = 4 ∨ size = 8 := sz_of hm
  have HZ : Hid (∀ W, Calls Try.prog 26 #[.int .u64 v, .int .i64 (8 * size)] W fun e w' => e = .returned (.int .u64 (Zx size v : Nat)) ∧ W = w') := fun W => bits_zext v hv size hsz W
  have ez : IntKind.i64.wrap (8 * size) = 8 * size := by rw [IntKind.wrap_i64]; omega
  have HP : Hid (∀ W, Below w.heap.size w W → Calls Try.prog 29 #[.pointer (some ⟨β.r, 0, none⟩)] W fun e w' => e = .returned (.int .i64 σ.n) ∧ W = w') := fun W hb => ram_pages (h.below hb).r
  have HR : Hid (∀ W, Calls Try.prog 28 #[.int .i64 σ.n, .int .u64 x] W fun e w' => e = .returned (.int .i64 3) ∧ Below W.heap.size W w') := fun W => by rw [← hk]; exact pma_region σ.n hlo.1 hlo.2 x (by omega) (by omega) W
  have HO : Hid (∀ W, Calls Try.prog 30 #[.int .i64 σ.n, .int .u64 x] W fun e w' => e = .returned (.int .u64 (pmaFind σ.n x).2.2.2) ∧ Below W.heap.size W w') := fun W => pma_offset σ.n hlo.1 hlo.2 x (by omega) (by omega) W
  have H := Lib.hid h
  have HLN := Lib.hid hlen; have HSN := Lib.hid hsn
  have HZV : Hid (Zx size v < 2 ^ 64) := Nat.lt_of_le_of_lt (Nat.mod_le _ _) hv
  have HF : Hid (∀ e w', WroteIs w β (σ.write3 x size (Zx size v)) (SocOwn β lg sn SR) e w' ↔ (e = .returned (.int .i64 (σ.write3 x size (Zx size v)).1) ∧ SocTo w w' β (σ.write3 x size (Zx size v)).2 (SocOwn β lg sn SR))) := fun _ _ => Iff.rfl
  clear h hx hv hm hk hlen hsn hlo hsz
  have hna := na3_Write β.p
  have hme := me3_Write β.p
  go_enter Try.func9, Try.ntmps9
  go_wp2_with fail
  refine (HM.out _ (Below.refl _ _)).mono ?_
  rintro e w1 ⟨rfl, hb⟩
  have HB1 := Lib.hid hb
  clear hb
  go_wp2_with fail
  refine (HZ.out _).mono ?_
  rintro e w1 ⟨rfl, rfl⟩
  go_wp2_with fail
  refine wp_region_held_drew (S := fun wq => wq.heap[β.s]? = some (.cells (socCells β σ lg) 75 (0, 0))) (by kernel_rfl) (H.out.below HB1.out).at_ (fun hH => ?_)
  refine wpAnyH_take (i := 0) (oi := ⟨some 25, _, _, _, _, _⟩) (v := ?_) rfl (by kernel_rfl) (by kernel_rfl) (by kernel_rfl) (fun _ _ _ h => h) (Or.inl ⟨by kernel_rfl, ?_⟩) hH ?_
  rotate_left 1
  · intro wq hq; have r0 : wq.cell? ⟨β.s, 0, none⟩ = some (.pointer (some ⟨β.c, 0, none⟩)) := blk_cell hq 0; have r1 : wq.cell? ⟨β.s, 1, none⟩ = some (.pointer (some ⟨β.p, 0, none⟩)) := blk_cell hq 1; have r2 : wq.cell? ⟨β.s, 2, none⟩ = some (.pointer (some ⟨β.u, 0, none⟩)) := blk_cell hq 2; have r3 : wq.cell? ⟨β.s, 3, none⟩ = some (.pointer (some ⟨β.r, 0, none⟩)) := blk_cell hq 3; clear hq; first | (go_simp; done) | (go_simp; with_reducible rfl)
  simp only [Act.put, List.setIfInBounds_toArray, List.set_cons_zero, List.set_cons_succ]
  refine wpAnyH_take (i := 1) (oi := ⟨some 26, _, _, _, _, _⟩) (v := ?_) rfl (by kernel_rfl) (by kernel_rfl) (by kernel_rfl) (fun _ _ _ h => h) (Or.inl ⟨by kernel_rfl, ?_⟩) hH ?_
  rotate_left 1
  · intro wq hq; have r0 : wq.cell? ⟨β.s, 0, none⟩ = some (.pointer (some ⟨β.c, 0, none⟩)) := blk_cell hq 0; have r1 : wq.cell? ⟨β.s, 1, none⟩ = some (.pointer (some ⟨β.p, 0, none⟩)) := blk_cell hq 1; have r2 : wq.cell? ⟨β.s, 2, none⟩ = some (.pointer (some ⟨β.u, 0, none⟩)) := blk_cell hq 2; have r3 : wq.cell? ⟨β.s, 3, none⟩ = some (.pointer (some ⟨β.r, 0, none⟩)) := blk_cell hq 3; clear hq; first | (go_simp; done) | (go_simp; with_reducible rfl)
  simp only [Act.put, List.setIfInBounds_toArray, List.set_cons_zero, List.set_cons_succ]
  refine wpAnyH_take (i := 2) (oi := ⟨some 27, _, _, _, _, _⟩) (v := ?_) rfl (by kernel_rfl) (by kernel_rfl) (by kernel_rfl) (fun _ _ _ h => h) (Or.inl ⟨by kernel_rfl, ?_⟩) hH ?_
  rotate_left 1
  · intro wq hq; have r0 : wq.cell? ⟨β.s, 0, none⟩ = some (.pointer (some ⟨β.c, 0, none⟩)) := blk_cell hq 0; have r1 : wq.cell? ⟨β.s, 1, none⟩ = some (.pointer (some ⟨β.p, 0, none⟩)) := blk_cell hq 1; have r2 : wq.cell? ⟨β.s, 2, none⟩ = some (.pointer (some ⟨β.u, 0, none⟩)) := blk_cell hq 2; have r3 : wq.cell? ⟨β.s, 3, none⟩ = some (.pointer (some ⟨β.r, 0, none⟩)) := blk_cell hq 3; clear hq; first | (go_simp; done) | (go_simp; with_reducible rfl)
  simp only [Act.put, List.setIfInBounds_toArray, List.set_cons_zero, List.set_cons_succ]
  refine wpAnyH_take (i := 3) (oi := ⟨some 28, _, _, _, _, _⟩) (v := ?_) rfl (by kernel_rfl) (by kernel_rfl) (by kernel_rfl) (fun _ _ _ h => h) (Or.inl ⟨by kernel_rfl, ?_⟩) hH ?_
  rotate_left 1
  · intro wq hq; have r0 : wq.cell? ⟨β.s, 0, none⟩ = some (.pointer (some ⟨β.c, 0, none⟩)) := blk_cell hq 0; have r1 : wq.cell? ⟨β.s, 1, none⟩ = some (.pointer (some ⟨β.p, 0, none⟩)) := blk_cell hq 1; have r2 : wq.cell? ⟨β.s, 2, none⟩ = some (.pointer (some ⟨β.u, 0, none⟩)) := blk_cell hq 2; have r3 : wq.cell? ⟨β.s, 3, none⟩ = some (.pointer (some ⟨β.r, 0, none⟩)) := blk_cell hq 3; clear hq; first | (go_simp; done) | (go_simp; with_reducible rfl)
  simp only [Act.put, List.setIfInBounds_toArray, List.set_cons_zero, List.set_cons_succ]
  refine wpAnyH_take (i := 4) (oi := ⟨some 29, _, _, _, _, _⟩) (v := ?_) rfl (by kernel_rfl) (by kernel_rfl) (by kernel_rfl) (fun _ _ _ h => h) (Or.inl ⟨by kernel_rfl, ?_⟩) hH ?_
  rotate_left 1
  · intro wq hq; have r0 : wq.cell? ⟨β.s, 0, none⟩ = some (.pointer (some ⟨β.c, 0, none⟩)) := blk_cell hq 0; have r1 : wq.cell? ⟨β.s, 1, none⟩ = some (.pointer (some ⟨β.p, 0, none⟩)) := blk_cell hq 1; have r2 : wq.cell? ⟨β.s, 2, none⟩ = some (.pointer (some ⟨β.u, 0, none⟩)) := blk_cell hq 2; have r3 : wq.cell? ⟨β.s, 3, none⟩ = some (.pointer (some ⟨β.r, 0, none⟩)) := blk_cell hq 3; clear hq; first | (go_simp; done) | (go_simp; with_reducible rfl)
  simp only [Act.put, List.setIfInBounds_toArray, List.set_cons_zero, List.set_cons_succ]
  refine wpAnyH_take (i := 5) (oi := ⟨some 30, _, _, _, _, _⟩) (v := ?_) rfl (by kernel_rfl) (by kernel_rfl) (by kernel_rfl) (fun _ _ _ h => h) (Or.inl ⟨by kernel_rfl, ?_⟩) hH ?_
  rotate_left 1
  · intro wq hq; have r0 : wq.cell? ⟨β.s, 0, none⟩ = some (.pointer (some ⟨β.c, 0, none⟩)) := blk_cell hq 0; have r1 : wq.cell? ⟨β.s, 1, none⟩ = some (.pointer (some ⟨β.p, 0, none⟩)) := blk_cell hq 1; have r2 : wq.cell? ⟨β.s, 2, none⟩ = some (.pointer (some ⟨β.u, 0, none⟩)) := blk_cell hq 2; have r3 : wq.cell? ⟨β.s, 3, none⟩ = some (.pointer (some ⟨β.r, 0, none⟩)) := blk_cell hq 3; clear hq; first | (go_simp; done) | (go_simp; with_reducible rfl)
  simp only [Act.put, List.setIfInBounds_toArray, List.set_cons_zero, List.set_cons_succ]
  refine wpAnyH_take (i := 6) (oi := ⟨some 31, _, _, _, _, _⟩) (v := ?_) rfl (by kernel_rfl) (by kernel_rfl) (by kernel_rfl) (fun _ _ _ h => h) (Or.inl ⟨by kernel_rfl, ?_⟩) hH ?_
  rotate_left 1
  · intro wq hq; have r0 : wq.cell? ⟨β.s, 0, none⟩ = some (.pointer (some ⟨β.c, 0, none⟩)) := blk_cell hq 0; have r1 : wq.cell? ⟨β.s, 1, none⟩ = some (.pointer (some ⟨β.p, 0, none⟩)) := blk_cell hq 1; have r2 : wq.cell? ⟨β.s, 2, none⟩ = some (.pointer (some ⟨β.u, 0, none⟩)) := blk_cell hq 2; have r3 : wq.cell? ⟨β.s, 3, none⟩ = some (.pointer (some ⟨β.r, 0, none⟩)) := blk_cell hq 3; clear hq; first | (go_simp; done) | (go_simp; with_reducible rfl)
  simp only [Act.put, List.setIfInBounds_toArray, List.set_cons_zero, List.set_cons_succ]
  refine wpAnyH_take (i := 7) (oi := ⟨some 32, _, _, _, _, _⟩) (v := ?_) rfl (by kernel_rfl) (by kernel_rfl) (by kernel_rfl) (fun _ _ _ h => h) (Or.inl ⟨by kernel_rfl, ?_⟩) hH ?_
  rotate_left 1
  · intro wq hq; have r0 : wq.cell? ⟨β.s, 0, none⟩ = some (.pointer (some ⟨β.c, 0, none⟩)) := blk_cell hq 0; have r1 : wq.cell? ⟨β.s, 1, none⟩ = some (.pointer (some ⟨β.p, 0, none⟩)) := blk_cell hq 1; have r2 : wq.cell? ⟨β.s, 2, none⟩ = some (.pointer (some ⟨β.u, 0, none⟩)) := blk_cell hq 2; have r3 : wq.cell? ⟨β.s, 3, none⟩ = some (.pointer (some ⟨β.r, 0, none⟩)) := blk_cell hq 3; clear hq; first | (go_simp; done) | (go_simp; with_reducible rfl)
  simp only [Act.put, List.setIfInBounds_toArray, List.set_cons_zero, List.set_cons_succ]
  refine wpAnyH_take (i := 9) (oi := ⟨some 34, _, _, _, _, _⟩) (v := ?_) rfl (by kernel_rfl) (by kernel_rfl) (by kernel_rfl) (fun _ _ _ h => h) (Or.inl ⟨by kernel_rfl, ?_⟩) hH ?_
  rotate_left 1
  · intro wq hq; have r0 : wq.cell? ⟨β.s, 0, none⟩ = some (.pointer (some ⟨β.c, 0, none⟩)) := blk_cell hq 0; have r1 : wq.cell? ⟨β.s, 1, none⟩ = some (.pointer (some ⟨β.p, 0, none⟩)) := blk_cell hq 1; have r2 : wq.cell? ⟨β.s, 2, none⟩ = some (.pointer (some ⟨β.u, 0, none⟩)) := blk_cell hq 2; have r3 : wq.cell? ⟨β.s, 3, none⟩ = some (.pointer (some ⟨β.r, 0, none⟩)) := blk_cell hq 3; clear hq; first | (go_simp; done) | (go_simp; with_reducible rfl)
  simp only [Act.put, List.setIfInBounds_toArray, List.set_cons_zero, List.set_cons_succ]
  refine wpAnyH_ready (rs := [8]) (by kernel_rfl) (by simp) (AllReadyH.cons (o := ⟨some 33, _, _, _, _, _⟩) rfl (fun K hK => ?_) AllReadyH.nil)
  go_simp
  refine (HP.out _ HB1.out.drew).mono ?_
  rintro e w2 ⟨rfl, rfl⟩
  go_wp2_with fail
  refine hK.out _ _ hH (fun hH => ?_)
  clear hK K
  try simp only [Act.put, List.setIfInBounds_toArray, List.set_cons_zero, List.set_cons_succ]
  refine wpAnyH_ready (rs := [10]) (by kernel_rfl) (by simp) (AllReadyH.cons (o := ⟨some 35, _, _, _, _, _⟩) rfl (fun K hK => ?_) AllReadyH.nil)
  go_simp
  refine (HR.out _).mono ?_
  rintro e w2 ⟨rfl, hb⟩
  have HB2 : Hid (Below w.heap.size w w2) := below_then HB1.out.drew hb HB1.out.size
  clear hb
  go_wp2_with fail
  refine hK.out _ _ (H.out.below HB2.out).at_ (fun hH => ?_)
  clear hK K
  try simp only [Act.put, List.setIfInBounds_toArray, List.set_cons_zero, List.set_cons_succ]
  refine wpAnyH_ready (rs := [11]) (by kernel_rfl) (by simp) (AllReadyH.cons (o := ⟨some 36, _, _, _, _, _⟩) rfl (fun K hK => ?_) AllReadyH.nil)
  go_simp
  refine (soc_at3 _ _ _ _).mono ?_
  rintro e w3 ⟨rfl, hb⟩
  have HB3 : Hid (Below w.heap.size w w3) := below_then HB2.out hb HB2.out.size
  clear hb HB1 HB2
  go_wp2_with fail
  refine hK.out _ _ (H.out.below HB3.out).at_ (fun hH => ?_)
  clear hK K
  try simp only [Act.put, List.setIfInBounds_toArray, List.set_cons_zero, List.set_cons_succ]
  refine wpAnyH_take (i := 12) (oi := ⟨some 24, _, _, _, _, _⟩) (v := ?_) rfl (by kernel_rfl) (by kernel_rfl) (by kernel_rfl) (fun _ _ _ h => h) (Or.inl ⟨by kernel_rfl, ?_⟩) hH ?_
  rotate_left 1
  · intro wq hq; have r0 : wq.cell? ⟨β.s, 0, none⟩ = some (.pointer (some ⟨β.c, 0, none⟩)) := blk_cell hq 0; have r1 : wq.cell? ⟨β.s, 1, none⟩ = some (.pointer (some ⟨β.p, 0, none⟩)) := blk_cell hq 1; have r2 : wq.cell? ⟨β.s, 2, none⟩ = some (.pointer (some ⟨β.u, 0, none⟩)) := blk_cell hq 2; have r3 : wq.cell? ⟨β.s, 3, none⟩ = some (.pointer (some ⟨β.r, 0, none⟩)) := blk_cell hq 3; clear hq; first | (go_simp; done) | (go_simp; with_reducible rfl)
  simp only [Act.put, List.setIfInBounds_toArray, List.set_cons_zero, List.set_cons_succ]
  refine wpAnyH_take (i := 13) (oi := ⟨some 37, _, _, _, _, _⟩) (v := ?_) rfl (by kernel_rfl) (by kernel_rfl) (by kernel_rfl) (fun _ _ _ h => h) (Or.inl ⟨by kernel_rfl, ?_⟩) hH ?_
  rotate_left 1
  · intro wq hq; have r0 : wq.cell? ⟨β.s, 0, none⟩ = some (.pointer (some ⟨β.c, 0, none⟩)) := blk_cell hq 0; have r1 : wq.cell? ⟨β.s, 1, none⟩ = some (.pointer (some ⟨β.p, 0, none⟩)) := blk_cell hq 1; have r2 : wq.cell? ⟨β.s, 2, none⟩ = some (.pointer (some ⟨β.u, 0, none⟩)) := blk_cell hq 2; have r3 : wq.cell? ⟨β.s, 3, none⟩ = some (.pointer (some ⟨β.r, 0, none⟩)) := blk_cell hq 3; clear hq; first | (go_simp; done) | (go_simp; with_reducible rfl)
  simp only [Act.put, List.setIfInBounds_toArray, List.set_cons_zero, List.set_cons_succ]
  refine wpAnyH_take (i := 14) (oi := ⟨some 38, _, _, _, _, _⟩) (v := ?_) rfl (by kernel_rfl) (by kernel_rfl) (by kernel_rfl) (fun _ _ _ h => h) (Or.inl ⟨by kernel_rfl, ?_⟩) hH ?_
  rotate_left 1
  · intro wq hq; have r0 : wq.cell? ⟨β.s, 0, none⟩ = some (.pointer (some ⟨β.c, 0, none⟩)) := blk_cell hq 0; have r1 : wq.cell? ⟨β.s, 1, none⟩ = some (.pointer (some ⟨β.p, 0, none⟩)) := blk_cell hq 1; have r2 : wq.cell? ⟨β.s, 2, none⟩ = some (.pointer (some ⟨β.u, 0, none⟩)) := blk_cell hq 2; have r3 : wq.cell? ⟨β.s, 3, none⟩ = some (.pointer (some ⟨β.r, 0, none⟩)) := blk_cell hq 3; clear hq; first | (go_simp; done) | (go_simp; with_reducible rfl)
  simp only [Act.put, List.setIfInBounds_toArray, List.set_cons_zero, List.set_cons_succ]
  refine wpAnyH_take (i := 15) (oi := ⟨some 10, _, _, _, _, _⟩) (v := ?_) rfl (by kernel_rfl) (by kernel_rfl) (by kernel_rfl) (fun _ _ _ h => h) (Or.inl ⟨by kernel_rfl, ?_⟩) hH ?_
  rotate_left 1
  · intro wq hq; have r0 : wq.cell? ⟨β.s, 0, none⟩ = some (.pointer (some ⟨β.c, 0, none⟩)) := blk_cell hq 0; have r1 : wq.cell? ⟨β.s, 1, none⟩ = some (.pointer (some ⟨β.p, 0, none⟩)) := blk_cell hq 1; have r2 : wq.cell? ⟨β.s, 2, none⟩ = some (.pointer (some ⟨β.u, 0, none⟩)) := blk_cell hq 2; have r3 : wq.cell? ⟨β.s, 3, none⟩ = some (.pointer (some ⟨β.r, 0, none⟩)) := blk_cell hq 3; clear hq; first | (go_simp; done) | (go_simp; with_reducible rfl)
  simp only [Act.put, List.setIfInBounds_toArray, List.set_cons_zero, List.set_cons_succ]
  refine wpAnyH_take (i := 16) (oi := ⟨some 11, _, _, _, _, _⟩) (v := ?_) rfl (by kernel_rfl) (by kernel_rfl) (by kernel_rfl) (fun _ _ _ h => h) (Or.inl ⟨by kernel_rfl, ?_⟩) hH ?_
  rotate_left 1
  · intro wq hq; have r0 : wq.cell? ⟨β.s, 0, none⟩ = some (.pointer (some ⟨β.c, 0, none⟩)) := blk_cell hq 0; have r1 : wq.cell? ⟨β.s, 1, none⟩ = some (.pointer (some ⟨β.p, 0, none⟩)) := blk_cell hq 1; have r2 : wq.cell? ⟨β.s, 2, none⟩ = some (.pointer (some ⟨β.u, 0, none⟩)) := blk_cell hq 2; have r3 : wq.cell? ⟨β.s, 3, none⟩ = some (.pointer (some ⟨β.r, 0, none⟩)) := blk_cell hq 3; clear hq; first | (go_simp; done) | (go_simp; with_reducible rfl)
  simp only [Act.put, List.setIfInBounds_toArray, List.set_cons_zero, List.set_cons_succ]
  refine wpAnyH_done (by kernel_rfl) ?_ _
  clear hH
  go_wp2_with fail
  refine wp_region_held_drew (S := fun wq => wq.heap[β.s]? = some (.cells (socCells β σ lg) 75 (0, 0))) (by kernel_rfl) (H.out.below HB3.out).at_ (fun hH => ?_)
  refine wpAnyH_take (i := 0) (oi := ⟨some 40, _, _, _, _, _⟩) (v := ?_) rfl (by kernel_rfl) (by kernel_rfl) (by kernel_rfl) (fun _ _ _ h => h) (Or.inl ⟨by kernel_rfl, ?_⟩) hH ?_
  rotate_left 1
  · intro wq hq; have r0 : wq.cell? ⟨β.s, 0, none⟩ = some (.pointer (some ⟨β.c, 0, none⟩)) := blk_cell hq 0; have r1 : wq.cell? ⟨β.s, 1, none⟩ = some (.pointer (some ⟨β.p, 0, none⟩)) := blk_cell hq 1; have r2 : wq.cell? ⟨β.s, 2, none⟩ = some (.pointer (some ⟨β.u, 0, none⟩)) := blk_cell hq 2; have r3 : wq.cell? ⟨β.s, 3, none⟩ = some (.pointer (some ⟨β.r, 0, none⟩)) := blk_cell hq 3; clear hq; first | (go_simp; done) | (go_simp; with_reducible rfl)
  simp only [Act.put, List.setIfInBounds_toArray, List.set_cons_zero, List.set_cons_succ]
  refine wpAnyH_take (i := 1) (oi := ⟨some 41, _, _, _, _, _⟩) (v := ?_) rfl (by kernel_rfl) (by kernel_rfl) (by kernel_rfl) (fun _ _ _ h => h) (Or.inl ⟨by kernel_rfl, ?_⟩) hH ?_
  rotate_left 1
  · intro wq hq; have r0 : wq.cell? ⟨β.s, 0, none⟩ = some (.pointer (some ⟨β.c, 0, none⟩)) := blk_cell hq 0; have r1 : wq.cell? ⟨β.s, 1, none⟩ = some (.pointer (some ⟨β.p, 0, none⟩)) := blk_cell hq 1; have r2 : wq.cell? ⟨β.s, 2, none⟩ = some (.pointer (some ⟨β.u, 0, none⟩)) := blk_cell hq 2; have r3 : wq.cell? ⟨β.s, 3, none⟩ = some (.pointer (some ⟨β.r, 0, none⟩)) := blk_cell hq 3; clear hq; first | (go_simp; done) | (go_simp; with_reducible rfl)
  simp only [Act.put, List.setIfInBounds_toArray, List.set_cons_zero, List.set_cons_succ]
  refine wpAnyH_take (i := 2) (oi := ⟨some 42, _, _, _, _, _⟩) (v := ?_) rfl (by kernel_rfl) (by kernel_rfl) (by kernel_rfl) (fun _ _ _ h => h) (Or.inl ⟨by kernel_rfl, ?_⟩) hH ?_
  rotate_left 1
  · intro wq hq; have r0 : wq.cell? ⟨β.s, 0, none⟩ = some (.pointer (some ⟨β.c, 0, none⟩)) := blk_cell hq 0; have r1 : wq.cell? ⟨β.s, 1, none⟩ = some (.pointer (some ⟨β.p, 0, none⟩)) := blk_cell hq 1; have r2 : wq.cell? ⟨β.s, 2, none⟩ = some (.pointer (some ⟨β.u, 0, none⟩)) := blk_cell hq 2; have r3 : wq.cell? ⟨β.s, 3, none⟩ = some (.pointer (some ⟨β.r, 0, none⟩)) := blk_cell hq 3; clear hq; first | (go_simp; done) | (go_simp; with_reducible rfl)
  simp only [Act.put, List.setIfInBounds_toArray, List.set_cons_zero, List.set_cons_succ]
  refine wpAnyH_take (i := 3) (oi := ⟨some 43, _, _, _, _, _⟩) (v := ?_) rfl (by kernel_rfl) (by kernel_rfl) (by kernel_rfl) (fun _ _ _ h => h) (Or.inl ⟨by kernel_rfl, ?_⟩) hH ?_
  rotate_left 1
  · intro wq hq; have r0 : wq.cell? ⟨β.s, 0, none⟩ = some (.pointer (some ⟨β.c, 0, none⟩)) := blk_cell hq 0; have r1 : wq.cell? ⟨β.s, 1, none⟩ = some (.pointer (some ⟨β.p, 0, none⟩)) := blk_cell hq 1; have r2 : wq.cell? ⟨β.s, 2, none⟩ = some (.pointer (some ⟨β.u, 0, none⟩)) := blk_cell hq 2; have r3 : wq.cell? ⟨β.s, 3, none⟩ = some (.pointer (some ⟨β.r, 0, none⟩)) := blk_cell hq 3; clear hq; first | (go_simp; done) | (go_simp; with_reducible rfl)
  simp only [Act.put, List.setIfInBounds_toArray, List.set_cons_zero, List.set_cons_succ]
  refine wpAnyH_take (i := 4) (oi := ⟨some 44, _, _, _, _, _⟩) (v := ?_) rfl (by kernel_rfl) (by kernel_rfl) (by kernel_rfl) (fun _ _ _ h => h) (Or.inl ⟨by kernel_rfl, ?_⟩) hH ?_
  rotate_left 1
  · intro wq hq; have r0 : wq.cell? ⟨β.s, 0, none⟩ = some (.pointer (some ⟨β.c, 0, none⟩)) := blk_cell hq 0; have r1 : wq.cell? ⟨β.s, 1, none⟩ = some (.pointer (some ⟨β.p, 0, none⟩)) := blk_cell hq 1; have r2 : wq.cell? ⟨β.s, 2, none⟩ = some (.pointer (some ⟨β.u, 0, none⟩)) := blk_cell hq 2; have r3 : wq.cell? ⟨β.s, 3, none⟩ = some (.pointer (some ⟨β.r, 0, none⟩)) := blk_cell hq 3; clear hq; first | (go_simp; done) | (go_simp; with_reducible rfl)
  simp only [Act.put, List.setIfInBounds_toArray, List.set_cons_zero, List.set_cons_succ]
  refine wpAnyH_take (i := 6) (oi := ⟨some 46, _, _, _, _, _⟩) (v := ?_) rfl (by kernel_rfl) (by kernel_rfl) (by kernel_rfl) (fun _ _ _ h => h) (Or.inl ⟨by kernel_rfl, ?_⟩) hH ?_
  rotate_left 1
  · intro wq hq; have r0 : wq.cell? ⟨β.s, 0, none⟩ = some (.pointer (some ⟨β.c, 0, none⟩)) := blk_cell hq 0; have r1 : wq.cell? ⟨β.s, 1, none⟩ = some (.pointer (some ⟨β.p, 0, none⟩)) := blk_cell hq 1; have r2 : wq.cell? ⟨β.s, 2, none⟩ = some (.pointer (some ⟨β.u, 0, none⟩)) := blk_cell hq 2; have r3 : wq.cell? ⟨β.s, 3, none⟩ = some (.pointer (some ⟨β.r, 0, none⟩)) := blk_cell hq 3; clear hq; first | (go_simp; done) | (go_simp; with_reducible rfl)
  simp only [Act.put, List.setIfInBounds_toArray, List.set_cons_zero, List.set_cons_succ]
  refine wpAnyH_take (i := 8) (oi := ⟨some 48, _, _, _, _, _⟩) (v := ?_) rfl (by kernel_rfl) (by kernel_rfl) (by kernel_rfl) (fun _ _ _ h => h) (Or.inl ⟨by kernel_rfl, ?_⟩) hH ?_
  rotate_left 1
  · intro wq hq; have r0 : wq.cell? ⟨β.s, 0, none⟩ = some (.pointer (some ⟨β.c, 0, none⟩)) := blk_cell hq 0; have r1 : wq.cell? ⟨β.s, 1, none⟩ = some (.pointer (some ⟨β.p, 0, none⟩)) := blk_cell hq 1; have r2 : wq.cell? ⟨β.s, 2, none⟩ = some (.pointer (some ⟨β.u, 0, none⟩)) := blk_cell hq 2; have r3 : wq.cell? ⟨β.s, 3, none⟩ = some (.pointer (some ⟨β.r, 0, none⟩)) := blk_cell hq 3; clear hq; first | (go_simp; done) | (go_simp; with_reducible rfl)
  simp only [Act.put, List.setIfInBounds_toArray, List.set_cons_zero, List.set_cons_succ]
  refine wpAnyH_take (i := 9) (oi := ⟨some 49, _, _, _, _, _⟩) (v := ?_) rfl (by kernel_rfl) (by kernel_rfl) (by kernel_rfl) (fun _ _ _ h => h) (Or.inl ⟨by kernel_rfl, ?_⟩) hH ?_
  rotate_left 1
  · intro wq hq; have r0 : wq.cell? ⟨β.s, 0, none⟩ = some (.pointer (some ⟨β.c, 0, none⟩)) := blk_cell hq 0; have r1 : wq.cell? ⟨β.s, 1, none⟩ = some (.pointer (some ⟨β.p, 0, none⟩)) := blk_cell hq 1; have r2 : wq.cell? ⟨β.s, 2, none⟩ = some (.pointer (some ⟨β.u, 0, none⟩)) := blk_cell hq 2; have r3 : wq.cell? ⟨β.s, 3, none⟩ = some (.pointer (some ⟨β.r, 0, none⟩)) := blk_cell hq 3; clear hq; first | (go_simp; done) | (go_simp; with_reducible rfl)
  simp only [Act.put, List.setIfInBounds_toArray, List.set_cons_zero, List.set_cons_succ]
  refine wpAnyH_take (i := 10) (oi := ⟨some 50, _, _, _, _, _⟩) (v := ?_) rfl (by kernel_rfl) (by kernel_rfl) (by kernel_rfl) (fun _ _ _ h => h) (Or.inl ⟨by kernel_rfl, ?_⟩) hH ?_
  rotate_left 1
  · intro wq hq; have r0 : wq.cell? ⟨β.s, 0, none⟩ = some (.pointer (some ⟨β.c, 0, none⟩)) := blk_cell hq 0; have r1 : wq.cell? ⟨β.s, 1, none⟩ = some (.pointer (some ⟨β.p, 0, none⟩)) := blk_cell hq 1; have r2 : wq.cell? ⟨β.s, 2, none⟩ = some (.pointer (some ⟨β.u, 0, none⟩)) := blk_cell hq 2; have r3 : wq.cell? ⟨β.s, 3, none⟩ = some (.pointer (some ⟨β.r, 0, none⟩)) := blk_cell hq 3; clear hq; first | (go_simp; done) | (go_simp; with_reducible rfl)
  simp only [Act.put, List.setIfInBounds_toArray, List.set_cons_zero, List.set_cons_succ]
  refine wpAnyH_take (i := 11) (oi := ⟨some 51, _, _, _, _, _⟩) (v := ?_) rfl (by kernel_rfl) (by kernel_rfl) (by kernel_rfl) (fun _ _ _ h => h) (Or.inl ⟨by kernel_rfl, ?_⟩) hH ?_
  rotate_left 1
  · intro wq hq; have r0 : wq.cell? ⟨β.s, 0, none⟩ = some (.pointer (some ⟨β.c, 0, none⟩)) := blk_cell hq 0; have r1 : wq.cell? ⟨β.s, 1, none⟩ = some (.pointer (some ⟨β.p, 0, none⟩)) := blk_cell hq 1; have r2 : wq.cell? ⟨β.s, 2, none⟩ = some (.pointer (some ⟨β.u, 0, none⟩)) := blk_cell hq 2; have r3 : wq.cell? ⟨β.s, 3, none⟩ = some (.pointer (some ⟨β.r, 0, none⟩)) := blk_cell hq 3; clear hq; first | (go_simp; done) | (go_simp; with_reducible rfl)
  simp only [Act.put, List.setIfInBounds_toArray, List.set_cons_zero, List.set_cons_succ]
  refine wpAnyH_take (i := 12) (oi := ⟨some 52, _, _, _, _, _⟩) (v := ?_) rfl (by kernel_rfl) (by kernel_rfl) (by kernel_rfl) (fun _ _ _ h => h) (Or.inl ⟨by kernel_rfl, ?_⟩) hH ?_
  rotate_left 1
  · intro wq hq; have r0 : wq.cell? ⟨β.s, 0, none⟩ = some (.pointer (some ⟨β.c, 0, none⟩)) := blk_cell hq 0; have r1 : wq.cell? ⟨β.s, 1, none⟩ = some (.pointer (some ⟨β.p, 0, none⟩)) := blk_cell hq 1; have r2 : wq.cell? ⟨β.s, 2, none⟩ = some (.pointer (some ⟨β.u, 0, none⟩)) := blk_cell hq 2; have r3 : wq.cell? ⟨β.s, 3, none⟩ = some (.pointer (some ⟨β.r, 0, none⟩)) := blk_cell hq 3; clear hq; first | (go_simp; done) | (go_simp; with_reducible rfl)
  simp only [Act.put, List.setIfInBounds_toArray, List.set_cons_zero, List.set_cons_succ]
  refine wpAnyH_ready (rs := [5]) (by kernel_rfl) (by simp) (AllReadyH.cons (o := ⟨some 45, _, _, _, _, _⟩) rfl (fun K hK => ?_) AllReadyH.nil)
  go_simp
  refine (HP.out _ HB3.out.drew).mono ?_
  rintro e w4 ⟨rfl, rfl⟩
  go_wp2_with fail
  refine hK.out _ _ hH (fun hH => ?_)
  clear hK K
  try simp only [Act.put, List.setIfInBounds_toArray, List.set_cons_zero, List.set_cons_succ]
  refine wpAnyH_ready (rs := [7]) (by kernel_rfl) (by simp) (AllReadyH.cons (o := ⟨some 47, _, _, _, _, _⟩) rfl (fun K hK => ?_) AllReadyH.nil)
  go_simp
  refine (HO.out _).mono ?_
  rintro e w4 ⟨rfl, hb⟩
  have HB4 : Hid (Below w.heap.size w w4) := below_then HB3.out.drew hb HB3.out.size
  clear hb
  go_wp2_with fail
  have H4 := Lib.hid (H.out.below HB4.out)
  refine hK.out _ _ H4.out.at_ (fun hH => ?_)
  clear hK K hH
  try simp only [Act.put, List.setIfInBounds_toArray, List.set_cons_zero, List.set_cons_succ]
  refine wpAnyH_ready (rs := [13]) (by kernel_rfl) (by simp) (AllReadyH.cons (o := ⟨some 53, _, _, _, _, _⟩) rfl (fun K hK => ?_) AllReadyH.nil)
  go_simp
  refine (plic_write_any σ.p H4.out.ok.p (pmaFind σ.n x).2.2.2 size (Zx size v) HZV.out β.p _ H4.out.p).mono ?_
  rintro e w5 ⟨rfl, hd⟩
  obtain ⟨h5, t5⟩ := H4.out.plic_to hd (Dev.write_ok σ.p H4.out.ok.p _ _ _)
  obtain ⟨er, σ1, hr, HW⟩ : ∃ er σ1, er = (σ.p.write (pmaFind σ.n x).2.2.2 size (Zx size v)).1 ∧ Hid (σ1 = ({ σ with p := (σ.p.write (pmaFind σ.n x).2.2.2 size (Zx size v)).2 } : SocS)) := ⟨_, _, rfl, rfl⟩
  rw [← hr]
  have HW2 : Hid (σ.write3 x size (Zx size v) = (er6 er, σ1.note ⟨σ.cycle, x, size, true, Zx size v, er6 er != 0⟩)) := by show _ = _; rw [hr, HW.out]; rfl
  have HS1 : Hid (σ1.cycle = σ.cycle ∧ σ1.log = σ.log) := by rw [HW.out]; exact ⟨rfl, rfl⟩
  rw [← HW.out] at h5
  have hat : w5.heap[β.s]? = some (.cells (socCells β σ lg) 75 (0, 0)) := by have := h5.at_; rw [HW.out] at this; simp only [socCells] at this ⊢; exact this
  have HT5 : Hid (TT w w5 (SocOwn β lg sn SR) (SocOwn β lg sn SR)) := TT.step ⟨Turned.of_below HB4.out _, fun _ => .inl⟩ t5
  have H5 := Lib.hid h5
  have HAT := Lib.hid hat
  clear hr HW h5 t5 hat HB3 HB4 H4 HO HP HM HZ HR hd
  go_wp2_with fail
  refine hK.out _ _ HAT.out (fun hH => ?_)
  clear hK K
  try simp only [Act.put, List.setIfInBounds_toArray, List.set_cons_zero, List.set_cons_succ]
  refine wpAnyH_take (i := 14) (oi := ⟨some 12, _, _, _, _, _⟩) (v := ?_) rfl (by kernel_rfl) (by kernel_rfl) (by kernel_rfl) (fun _ _ _ h => h) (Or.inl ⟨by kernel_rfl, ?_⟩) hH ?_
  rotate_left 1
  · intro wq hq; have r0 : wq.cell? ⟨β.s, 0, none⟩ = some (.pointer (some ⟨β.c, 0, none⟩)) := blk_cell hq 0; have r1 : wq.cell? ⟨β.s, 1, none⟩ = some (.pointer (some ⟨β.p, 0, none⟩)) := blk_cell hq 1; have r2 : wq.cell? ⟨β.s, 2, none⟩ = some (.pointer (some ⟨β.u, 0, none⟩)) := blk_cell hq 2; have r3 : wq.cell? ⟨β.s, 3, none⟩ = some (.pointer (some ⟨β.r, 0, none⟩)) := blk_cell hq 3; clear hq; first | (go_simp; done) | (go_simp; with_reducible rfl)
  simp only [Act.put, List.setIfInBounds_toArray, List.set_cons_zero, List.set_cons_succ]
  refine wpAnyH_done (by kernel_rfl) ?_ _
  clear hH
  have HLEN1 : Hid (σ1.log.length < 1000000) := by show _ < _; rw [HS1.out.2]; exact HLN.out
  by_cases her : er = 0
  · subst her
    go_wp2_with fail
    refine (soc_note H5.out HLEN1.out x size true (Zx size v) 0).mono ?_
    rintro e w6 ⟨rfl, hto⟩
    have HTO := Lib.hid (SocTo.after HT5.out hto)
    clear hto
    go_wp2
    go_ret
    refine (HF.out _ _).2 ?_
    rw [HW2.out]
    refine ⟨rfl, ?_⟩
    have := HTO.out
    rw [HS1.out.1] at this
    exact this
  · have hne : (er != 0) = true := by simpa using her
    have h66 : er6 er = 6 := if_neg her
    rw [h66] at HW2
    clear h66 her
    go_wp2_with fail
    refine (soc_note H5.out HLEN1.out x size true (Zx size v) 6).mono ?_
    rintro e w6 ⟨rfl, hto⟩
    have HTO := Lib.hid (SocTo.after HT5.out hto)
    clear hto
    go_wp2
    go_ret
    refine (HF.out _ _).2 ?_
    rw [HW2.out]
    refine ⟨rfl, ?_⟩
    have := HTO.out
    rw [HS1.out.1] at this
    exact this
set_option maxHeartbeats 4000000 in
theorem soc_write4 {w : World} {β : SocB} {σ : SocS} {lg sn : Value} {SR : Nat → Prop} (h : SocIs w β σ lg sn SR) (x : Nat) (hx : x < 2 ^ 64) (size : Int) (v : Nat) (hv : v < 2 ^ 64) (hm : socErr σ.n x size 2 = 0) (hk : (pmaFind σ.n x).1 = 4) (hlen : σ.log.length < 1000000) (hsn : σ.u.sent.length < 1000000) :
    Calls Try.prog 9 #[.pointer (some ⟨β.s, 0, none⟩), .int .u64 x, .int .i64 size, .int .u64 v] w (WroteIs w β (σ.write4 x size (Zx size v)) (SocOwn β lg sn SR)) := by
  have hlo := h.r.lo
  have HM : Hid (∀ W, Below w.heap.size w W → Calls Try.prog 25 #[.pointer (some ⟨β.s, 0, none⟩), .int .u64 x, .int .i64 size, .int .i64 2] W (fun e w' => e = .returned (.int .i64 0) ∧ Below w.heap.size w w')) := fun W hb => (soc_may (h.below hb) x (by omega) (by omega) size 2 (.inr rfl)).mono fun e w' ⟨h1, h2⟩ => ⟨by rw [h1, hm], below_then hb h2 hb.size⟩
  have hsz : size = 1 ∨ size = 2 ∨ size = 4 ∨ size = 8 := sz_of hm
  have HZ : Hid (∀ W, Calls Try.prog 26 #[.int .u64 v, .int .i64 (8 * size)] W fun e w' => e = .returned (.int .u64 (Zx size v : Nat)) ∧ W = w') := fun W => bits_zext v hv size hsz W
  have ez : IntKind.i64.wrap (8 * size) = 8 * size := by rw [IntKind.wrap_i64]; omega
  have HP : Hid (∀ W, Below w.heap.size w W → Calls Try.prog 29 #[.pointer (some ⟨β.r, 0, none⟩)] W fun e w' => e = .returned (.int .i64 σ.n) ∧ W = w') := fun W hb => ram_pages (h.below hb).r
  have HR : Hid (∀ W, Calls Try.prog 28 #[.int .i64 σ.n, .int .u64 x] W fun e w' => e = .returned (.int .i64 4) ∧ Below W.heap.size W w') := fun W => by rw [← hk]; exact pma_region σ.n hlo.1 hlo.2 x (by omega) (by omega) W
  have HO : Hid (∀ W, Calls Try.prog 30 #[.int .i64 σ.n, .int .u64 x] W fun e w' => e = .returned (.int .u64 (pmaFind σ.n x).2.2.2) ∧ Below W.heap.size W w') := fun W => pma_offset σ.n hlo.1 hlo.2 x (by omega) (by omega) W
  have H := Lib.hid h
  have HLN := Lib.hid hlen; have HSN := Lib.hid hsn
  have HZV : Hid (Zx size v < 2 ^ 64) := Nat.lt_of_le_of_lt (Nat.mod_le _ _) hv
  have HF : Hid (∀ e w', WroteIs w β (σ.write4 x size (Zx size v)) (SocOwn β lg sn SR) e w' ↔ (e = .returned (.int .i64 (σ.write4 x size (Zx size v)).1) ∧ SocTo w w' β (σ.write4 x size (Zx size v)).2 (SocOwn β lg sn SR))) := fun _ _ => Iff.rfl
  clear h hx hv hm hk hlen hsn hlo hsz
  have hna := na4_Write β.u
  have hme := me4_Write β.u
  go_enter Try.func9, Try.ntmps9
  go_wp2_with fail
  refine (HM.out _ (Below.refl _ _)).mono ?_
  rintro e w1 ⟨rfl, hb⟩
  have HB1 := Lib.hid hb
  clear hb
  go_wp2_with fail
  refine (HZ.out _).mono ?_
  rintro e w1 ⟨rfl, rfl⟩
  go_wp2_with fail
  refine wp_region_held_drew (S := fun wq => wq.heap[β.s]? = some (.cells (socCells β σ lg) 75 (0, 0))) (by kernel_rfl) (H.out.below HB1.out).at_ (fun hH => ?_)
  refine wpAnyH_take (i := 0) (oi := ⟨some 25, _, _, _, _, _⟩) (v := ?_) rfl (by kernel_rfl) (by kernel_rfl) (by kernel_rfl) (fun _ _ _ h => h) (Or.inl ⟨by kernel_rfl, ?_⟩) hH ?_
  rotate_left 1
  · intro wq hq; have r0 : wq.cell? ⟨β.s, 0, none⟩ = some (.pointer (some ⟨β.c, 0, none⟩)) := blk_cell hq 0; have r1 : wq.cell? ⟨β.s, 1, none⟩ = some (.pointer (some ⟨β.p, 0, none⟩)) := blk_cell hq 1; have r2 : wq.cell? ⟨β.s, 2, none⟩ = some (.pointer (some ⟨β.u, 0, none⟩)) := blk_cell hq 2; have r3 : wq.cell? ⟨β.s, 3, none⟩ = some (.pointer (some ⟨β.r, 0, none⟩)) := blk_cell hq 3; clear hq; first | (go_simp; done) | (go_simp; with_reducible rfl)
  simp only [Act.put, List.setIfInBounds_toArray, List.set_cons_zero, List.set_cons_succ]
  refine wpAnyH_take (i := 1) (oi := ⟨some 26, _, _, _, _, _⟩) (v := ?_) rfl (by kernel_rfl) (by kernel_rfl) (by kernel_rfl) (fun _ _ _ h => h) (Or.inl ⟨by kernel_rfl, ?_⟩) hH ?_
  rotate_left 1
  · intro wq hq; have r0 : wq.cell? ⟨β.s, 0, none⟩ = some (.pointer (some ⟨β.c, 0, none⟩)) := blk_cell hq 0; have r1 : wq.cell? ⟨β.s, 1, none⟩ = some (.pointer (some ⟨β.p, 0, none⟩)) := blk_cell hq 1; have r2 : wq.cell? ⟨β.s, 2, none⟩ = some (.pointer (some ⟨β.u, 0, none⟩)) := blk_cell hq 2; have r3 : wq.cell? ⟨β.s, 3, none⟩ = some (.pointer (some ⟨β.r, 0, none⟩)) := blk_cell hq 3; clear hq; first | (go_simp; done) | (go_simp; with_reducible rfl)
  simp only [Act.put, List.setIfInBounds_toArray, List.set_cons_zero, List.set_cons_succ]
  refine wpAnyH_take (i := 2) (oi := ⟨some 27, _, _, _, _, _⟩) (v := ?_) rfl (by kernel_rfl) (by kernel_rfl) (by kernel_rfl) (fun _ _ _ h => h) (Or.inl ⟨by kernel_rfl, ?_⟩) hH ?_
  rotate_left 1
  · intro wq hq; have r0 : wq.cell? ⟨β.s, 0, none⟩ = some (.pointer (some ⟨β.c, 0, none⟩)) := blk_cell hq 0; have r1 : wq.cell? ⟨β.s, 1, none⟩ = some (.pointer (some ⟨β.p, 0, none⟩)) := blk_cell hq 1; have r2 : wq.cell? ⟨β.s, 2, none⟩ = some (.pointer (some ⟨β.u, 0, none⟩)) := blk_cell hq 2; have r3 : wq.cell? ⟨β.s, 3, none⟩ = some (.pointer (some ⟨β.r, 0, none⟩)) := blk_cell hq 3; clear hq; first | (go_simp; done) | (go_simp; with_reducible rfl)
  simp only [Act.put, List.setIfInBounds_toArray, List.set_cons_zero, List.set_cons_succ]
  refine wpAnyH_take (i := 3) (oi := ⟨some 28, _, _, _, _, _⟩) (v := ?_) rfl (by kernel_rfl) (by kernel_rfl) (by kernel_rfl) (fun _ _ _ h => h) (Or.inl ⟨by kernel_rfl, ?_⟩) hH ?_
  rotate_left 1
  · intro wq hq; have r0 : wq.cell? ⟨β.s, 0, none⟩ = some (.pointer (some ⟨β.c, 0, none⟩)) := blk_cell hq 0; have r1 : wq.cell? ⟨β.s, 1, none⟩ = some (.pointer (some ⟨β.p, 0, none⟩)) := blk_cell hq 1; have r2 : wq.cell? ⟨β.s, 2, none⟩ = some (.pointer (some ⟨β.u, 0, none⟩)) := blk_cell hq 2; have r3 : wq.cell? ⟨β.s, 3, none⟩ = some (.pointer (some ⟨β.r, 0, none⟩)) := blk_cell hq 3; clear hq; first | (go_simp; done) | (go_simp; with_reducible rfl)
  simp only [Act.put, List.setIfInBounds_toArray, List.set_cons_zero, List.set_cons_succ]
  refine wpAnyH_take (i := 4) (oi := ⟨some 29, _, _, _, _, _⟩) (v := ?_) rfl (by kernel_rfl) (by kernel_rfl) (by kernel_rfl) (fun _ _ _ h => h) (Or.inl ⟨by kernel_rfl, ?_⟩) hH ?_
  rotate_left 1
  · intro wq hq; have r0 : wq.cell? ⟨β.s, 0, none⟩ = some (.pointer (some ⟨β.c, 0, none⟩)) := blk_cell hq 0; have r1 : wq.cell? ⟨β.s, 1, none⟩ = some (.pointer (some ⟨β.p, 0, none⟩)) := blk_cell hq 1; have r2 : wq.cell? ⟨β.s, 2, none⟩ = some (.pointer (some ⟨β.u, 0, none⟩)) := blk_cell hq 2; have r3 : wq.cell? ⟨β.s, 3, none⟩ = some (.pointer (some ⟨β.r, 0, none⟩)) := blk_cell hq 3; clear hq; first | (go_simp; done) | (go_simp; with_reducible rfl)
  simp only [Act.put, List.setIfInBounds_toArray, List.set_cons_zero, List.set_cons_succ]
  refine wpAnyH_take (i := 5) (oi := ⟨some 30, _, _, _, _, _⟩) (v := ?_) rfl (by kernel_rfl) (by kernel_rfl) (by kernel_rfl) (fun _ _ _ h => h) (Or.inl ⟨by kernel_rfl, ?_⟩) hH ?_
  rotate_left 1
  · intro wq hq; have r0 : wq.cell? ⟨β.s, 0, none⟩ = some (.pointer (some ⟨β.c, 0, none⟩)) := blk_cell hq 0; have r1 : wq.cell? ⟨β.s, 1, none⟩ = some (.pointer (some ⟨β.p, 0, none⟩)) := blk_cell hq 1; have r2 : wq.cell? ⟨β.s, 2, none⟩ = some (.pointer (some ⟨β.u, 0, none⟩)) := blk_cell hq 2; have r3 : wq.cell? ⟨β.s, 3, none⟩ = some (.pointer (some ⟨β.r, 0, none⟩)) := blk_cell hq 3; clear hq; first | (go_simp; done) | (go_simp; with_reducible rfl)
  simp only [Act.put, List.setIfInBounds_toArray, List.set_cons_zero, List.set_cons_succ]
  refine wpAnyH_take (i := 6) (oi := ⟨some 31, _, _, _, _, _⟩) (v := ?_) rfl (by kernel_rfl) (by kernel_rfl) (by kernel_rfl) (fun _ _ _ h => h) (Or.inl ⟨by kernel_rfl, ?_⟩) hH ?_
  rotate_left 1
  · intro wq hq; have r0 : wq.cell? ⟨β.s, 0, none⟩ = some (.pointer (some ⟨β.c, 0, none⟩)) := blk_cell hq 0; have r1 : wq.cell? ⟨β.s, 1, none⟩ = some (.pointer (some ⟨β.p, 0, none⟩)) := blk_cell hq 1; have r2 : wq.cell? ⟨β.s, 2, none⟩ = some (.pointer (some ⟨β.u, 0, none⟩)) := blk_cell hq 2; have r3 : wq.cell? ⟨β.s, 3, none⟩ = some (.pointer (some ⟨β.r, 0, none⟩)) := blk_cell hq 3; clear hq; first | (go_simp; done) | (go_simp; with_reducible rfl)
  simp only [Act.put, List.setIfInBounds_toArray, List.set_cons_zero, List.set_cons_succ]
  refine wpAnyH_take (i := 7) (oi := ⟨some 32, _, _, _, _, _⟩) (v := ?_) rfl (by kernel_rfl) (by kernel_rfl) (by kernel_rfl) (fun _ _ _ h => h) (Or.inl ⟨by kernel_rfl, ?_⟩) hH ?_
  rotate_left 1
  · intro wq hq; have r0 : wq.cell? ⟨β.s, 0, none⟩ = some (.pointer (some ⟨β.c, 0, none⟩)) := blk_cell hq 0; have r1 : wq.cell? ⟨β.s, 1, none⟩ = some (.pointer (some ⟨β.p, 0, none⟩)) := blk_cell hq 1; have r2 : wq.cell? ⟨β.s, 2, none⟩ = some (.pointer (some ⟨β.u, 0, none⟩)) := blk_cell hq 2; have r3 : wq.cell? ⟨β.s, 3, none⟩ = some (.pointer (some ⟨β.r, 0, none⟩)) := blk_cell hq 3; clear hq; first | (go_simp; done) | (go_simp; with_reducible rfl)
  simp only [Act.put, List.setIfInBounds_toArray, List.set_cons_zero, List.set_cons_succ]
  refine wpAnyH_take (i := 9) (oi := ⟨some 34, _, _, _, _, _⟩) (v := ?_) rfl (by kernel_rfl) (by kernel_rfl) (by kernel_rfl) (fun _ _ _ h => h) (Or.inl ⟨by kernel_rfl, ?_⟩) hH ?_
  rotate_left 1
  · intro wq hq; have r0 : wq.cell? ⟨β.s, 0, none⟩ = some (.pointer (some ⟨β.c, 0, none⟩)) := blk_cell hq 0; have r1 : wq.cell? ⟨β.s, 1, none⟩ = some (.pointer (some ⟨β.p, 0, none⟩)) := blk_cell hq 1; have r2 : wq.cell? ⟨β.s, 2, none⟩ = some (.pointer (some ⟨β.u, 0, none⟩)) := blk_cell hq 2; have r3 : wq.cell? ⟨β.s, 3, none⟩ = some (.pointer (some ⟨β.r, 0, none⟩)) := blk_cell hq 3; clear hq; first | (go_simp; done) | (go_simp; with_reducible rfl)
  simp only [Act.put, List.setIfInBounds_toArray, List.set_cons_zero, List.set_cons_succ]
  refine wpAnyH_ready (rs := [8]) (by kernel_rfl) (by simp) (AllReadyH.cons (o := ⟨some 33, _, _, _, _, _⟩) rfl (fun K hK => ?_) AllReadyH.nil)
  go_simp
  refine (HP.out _ HB1.out.drew).mono ?_
  rintro e w2 ⟨rfl, rfl⟩
  go_wp2_with fail
  refine hK.out _ _ hH (fun hH => ?_)
  clear hK K
  try simp only [Act.put, List.setIfInBounds_toArray, List.set_cons_zero, List.set_cons_succ]
  refine wpAnyH_ready (rs := [10]) (by kernel_rfl) (by simp) (AllReadyH.cons (o := ⟨some 35, _, _, _, _, _⟩) rfl (fun K hK => ?_) AllReadyH.nil)
  go_simp
  refine (HR.out _).mono ?_
  rintro e w2 ⟨rfl, hb⟩
  have HB2 : Hid (Below w.heap.size w w2) := below_then HB1.out.drew hb HB1.out.size
  clear hb
  go_wp2_with fail
  refine hK.out _ _ (H.out.below HB2.out).at_ (fun hH => ?_)
  clear hK K
  try simp only [Act.put, List.setIfInBounds_toArray, List.set_cons_zero, List.set_cons_succ]
  refine wpAnyH_ready (rs := [11]) (by kernel_rfl) (by simp) (AllReadyH.cons (o := ⟨some 36, _, _, _, _, _⟩) rfl (fun K hK => ?_) AllReadyH.nil)
  go_simp
  refine (soc_at4 _ _ _ _).mono ?_
  rintro e w3 ⟨rfl, hb⟩
  have HB3 : Hid (Below w.heap.size w w3) := below_then HB2.out hb HB2.out.size
  clear hb HB1 HB2
  go_wp2_with fail
  refine hK.out _ _ (H.out.below HB3.out).at_ (fun hH => ?_)
  clear hK K
  try simp only [Act.put, List.setIfInBounds_toArray, List.set_cons_zero, List.set_cons_succ]
  refine wpAnyH_take (i := 12) (oi := ⟨some 24, _, _, _, _, _⟩) (v := ?_) rfl (by kernel_rfl) (by kernel_rfl) (by kernel_rfl) (fun _ _ _ h => h) (Or.inl ⟨by kernel_rfl, ?_⟩) hH ?_
  rotate_left 1
  · intro wq hq; have r0 : wq.cell? ⟨β.s, 0, none⟩ = some (.pointer (some ⟨β.c, 0, none⟩)) := blk_cell hq 0; have r1 : wq.cell? ⟨β.s, 1, none⟩ = some (.pointer (some ⟨β.p, 0, none⟩)) := blk_cell hq 1; have r2 : wq.cell? ⟨β.s, 2, none⟩ = some (.pointer (some ⟨β.u, 0, none⟩)) := blk_cell hq 2; have r3 : wq.cell? ⟨β.s, 3, none⟩ = some (.pointer (some ⟨β.r, 0, none⟩)) := blk_cell hq 3; clear hq; first | (go_simp; done) | (go_simp; with_reducible rfl)
  simp only [Act.put, List.setIfInBounds_toArray, List.set_cons_zero, List.set_cons_succ]
  refine wpAnyH_take (i := 13) (oi := ⟨some 37, _, _, _, _, _⟩) (v := ?_) rfl (by kernel_rfl) (by kernel_rfl) (by kernel_rfl) (fun _ _ _ h => h) (Or.inl ⟨by kernel_rfl, ?_⟩) hH ?_
  rotate_left 1
  · intro wq hq; have r0 : wq.cell? ⟨β.s, 0, none⟩ = some (.pointer (some ⟨β.c, 0, none⟩)) := blk_cell hq 0; have r1 : wq.cell? ⟨β.s, 1, none⟩ = some (.pointer (some ⟨β.p, 0, none⟩)) := blk_cell hq 1; have r2 : wq.cell? ⟨β.s, 2, none⟩ = some (.pointer (some ⟨β.u, 0, none⟩)) := blk_cell hq 2; have r3 : wq.cell? ⟨β.s, 3, none⟩ = some (.pointer (some ⟨β.r, 0, none⟩)) := blk_cell hq 3; clear hq; first | (go_simp; done) | (go_simp; with_reducible rfl)
  simp only [Act.put, List.setIfInBounds_toArray, List.set_cons_zero, List.set_cons_succ]
  refine wpAnyH_take (i := 14) (oi := ⟨some 38, _, _, _, _, _⟩) (v := ?_) rfl (by kernel_rfl) (by kernel_rfl) (by kernel_rfl) (fun _ _ _ h => h) (Or.inl ⟨by kernel_rfl, ?_⟩) hH ?_
  rotate_left 1
  · intro wq hq; have r0 : wq.cell? ⟨β.s, 0, none⟩ = some (.pointer (some ⟨β.c, 0, none⟩)) := blk_cell hq 0; have r1 : wq.cell? ⟨β.s, 1, none⟩ = some (.pointer (some ⟨β.p, 0, none⟩)) := blk_cell hq 1; have r2 : wq.cell? ⟨β.s, 2, none⟩ = some (.pointer (some ⟨β.u, 0, none⟩)) := blk_cell hq 2; have r3 : wq.cell? ⟨β.s, 3, none⟩ = some (.pointer (some ⟨β.r, 0, none⟩)) := blk_cell hq 3; clear hq; first | (go_simp; done) | (go_simp; with_reducible rfl)
  simp only [Act.put, List.setIfInBounds_toArray, List.set_cons_zero, List.set_cons_succ]
  refine wpAnyH_take (i := 15) (oi := ⟨some 10, _, _, _, _, _⟩) (v := ?_) rfl (by kernel_rfl) (by kernel_rfl) (by kernel_rfl) (fun _ _ _ h => h) (Or.inl ⟨by kernel_rfl, ?_⟩) hH ?_
  rotate_left 1
  · intro wq hq; have r0 : wq.cell? ⟨β.s, 0, none⟩ = some (.pointer (some ⟨β.c, 0, none⟩)) := blk_cell hq 0; have r1 : wq.cell? ⟨β.s, 1, none⟩ = some (.pointer (some ⟨β.p, 0, none⟩)) := blk_cell hq 1; have r2 : wq.cell? ⟨β.s, 2, none⟩ = some (.pointer (some ⟨β.u, 0, none⟩)) := blk_cell hq 2; have r3 : wq.cell? ⟨β.s, 3, none⟩ = some (.pointer (some ⟨β.r, 0, none⟩)) := blk_cell hq 3; clear hq; first | (go_simp; done) | (go_simp; with_reducible rfl)
  simp only [Act.put, List.setIfInBounds_toArray, List.set_cons_zero, List.set_cons_succ]
  refine wpAnyH_take (i := 16) (oi := ⟨some 11, _, _, _, _, _⟩) (v := ?_) rfl (by kernel_rfl) (by kernel_rfl) (by kernel_rfl) (fun _ _ _ h => h) (Or.inl ⟨by kernel_rfl, ?_⟩) hH ?_
  rotate_left 1
  · intro wq hq; have r0 : wq.cell? ⟨β.s, 0, none⟩ = some (.pointer (some ⟨β.c, 0, none⟩)) := blk_cell hq 0; have r1 : wq.cell? ⟨β.s, 1, none⟩ = some (.pointer (some ⟨β.p, 0, none⟩)) := blk_cell hq 1; have r2 : wq.cell? ⟨β.s, 2, none⟩ = some (.pointer (some ⟨β.u, 0, none⟩)) := blk_cell hq 2; have r3 : wq.cell? ⟨β.s, 3, none⟩ = some (.pointer (some ⟨β.r, 0, none⟩)) := blk_cell hq 3; clear hq; first | (go_simp; done) | (go_simp; with_reducible rfl)
  simp only [Act.put, List.setIfInBounds_toArray, List.set_cons_zero, List.set_cons_succ]
  refine wpAnyH_done (by kernel_rfl) ?_ _
  clear hH
  go_wp2_with fail
  refine wp_region_held_drew (S := fun wq => wq.heap[β.s]? = some (.cells (socCells β σ lg) 75 (0, 0))) (by kernel_rfl) (H.out.below HB3.out).at_ (fun hH => ?_)
  refine wpAnyH_take (i := 0) (oi := ⟨some 40, _, _, _, _, _⟩) (v := ?_) rfl (by kernel_rfl) (by kernel_rfl) (by kernel_rfl) (fun _ _ _ h => h) (Or.inl ⟨by kernel_rfl, ?_⟩) hH ?_
  rotate_left 1
  · intro wq hq; have r0 : wq.cell? ⟨β.s, 0, none⟩ = some (.pointer (some ⟨β.c, 0, none⟩)) := blk_cell hq 0; have r1 : wq.cell? ⟨β.s, 1, none⟩ = some (.pointer (some ⟨β.p, 0, none⟩)) := blk_cell hq 1; have r2 : wq.cell? ⟨β.s, 2, none⟩ = some (.pointer (some ⟨β.u, 0, none⟩)) := blk_cell hq 2; have r3 : wq.cell? ⟨β.s, 3, none⟩ = some (.pointer (some ⟨β.r, 0, none⟩)) := blk_cell hq 3; clear hq; first | (go_simp; done) | (go_simp; with_reducible rfl)
  simp only [Act.put, List.setIfInBounds_toArray, List.set_cons_zero, List.set_cons_succ]
  refine wpAnyH_take (i := 1) (oi := ⟨some 41, _, _, _, _, _⟩) (v := ?_) rfl (by kernel_rfl) (by kernel_rfl) (by kernel_rfl) (fun _ _ _ h => h) (Or.inl ⟨by kernel_rfl, ?_⟩) hH ?_
  rotate_left 1
  · intro wq hq; have r0 : wq.cell? ⟨β.s, 0, none⟩ = some (.pointer (some ⟨β.c, 0, none⟩)) := blk_cell hq 0; have r1 : wq.cell? ⟨β.s, 1, none⟩ = some (.pointer (some ⟨β.p, 0, none⟩)) := blk_cell hq 1; have r2 : wq.cell? ⟨β.s, 2, none⟩ = some (.pointer (some ⟨β.u, 0, none⟩)) := blk_cell hq 2; have r3 : wq.cell? ⟨β.s, 3, none⟩ = some (.pointer (some ⟨β.r, 0, none⟩)) := blk_cell hq 3; clear hq; first | (go_simp; done) | (go_simp; with_reducible rfl)
  simp only [Act.put, List.setIfInBounds_toArray, List.set_cons_zero, List.set_cons_succ]
  refine wpAnyH_take (i := 2) (oi := ⟨some 42, _, _, _, _, _⟩) (v := ?_) rfl (by kernel_rfl) (by kernel_rfl) (by kernel_rfl) (fun _ _ _ h => h) (Or.inl ⟨by kernel_rfl, ?_⟩) hH ?_
  rotate_left 1
  · intro wq hq; have r0 : wq.cell? ⟨β.s, 0, none⟩ = some (.pointer (some ⟨β.c, 0, none⟩)) := blk_cell hq 0; have r1 : wq.cell? ⟨β.s, 1, none⟩ = some (.pointer (some ⟨β.p, 0, none⟩)) := blk_cell hq 1; have r2 : wq.cell? ⟨β.s, 2, none⟩ = some (.pointer (some ⟨β.u, 0, none⟩)) := blk_cell hq 2; have r3 : wq.cell? ⟨β.s, 3, none⟩ = some (.pointer (some ⟨β.r, 0, none⟩)) := blk_cell hq 3; clear hq; first | (go_simp; done) | (go_simp; with_reducible rfl)
  simp only [Act.put, List.setIfInBounds_toArray, List.set_cons_zero, List.set_cons_succ]
  refine wpAnyH_take (i := 3) (oi := ⟨some 43, _, _, _, _, _⟩) (v := ?_) rfl (by kernel_rfl) (by kernel_rfl) (by kernel_rfl) (fun _ _ _ h => h) (Or.inl ⟨by kernel_rfl, ?_⟩) hH ?_
  rotate_left 1
  · intro wq hq; have r0 : wq.cell? ⟨β.s, 0, none⟩ = some (.pointer (some ⟨β.c, 0, none⟩)) := blk_cell hq 0; have r1 : wq.cell? ⟨β.s, 1, none⟩ = some (.pointer (some ⟨β.p, 0, none⟩)) := blk_cell hq 1; have r2 : wq.cell? ⟨β.s, 2, none⟩ = some (.pointer (some ⟨β.u, 0, none⟩)) := blk_cell hq 2; have r3 : wq.cell? ⟨β.s, 3, none⟩ = some (.pointer (some ⟨β.r, 0, none⟩)) := blk_cell hq 3; clear hq; first | (go_simp; done) | (go_simp; with_reducible rfl)
  simp only [Act.put, List.setIfInBounds_toArray, List.set_cons_zero, List.set_cons_succ]
  refine wpAnyH_take (i := 4) (oi := ⟨some 44, _, _, _, _, _⟩) (v := ?_) rfl (by kernel_rfl) (by kernel_rfl) (by kernel_rfl) (fun _ _ _ h => h) (Or.inl ⟨by kernel_rfl, ?_⟩) hH ?_
  rotate_left 1
  · intro wq hq; have r0 : wq.cell? ⟨β.s, 0, none⟩ = some (.pointer (some ⟨β.c, 0, none⟩)) := blk_cell hq 0; have r1 : wq.cell? ⟨β.s, 1, none⟩ = some (.pointer (some ⟨β.p, 0, none⟩)) := blk_cell hq 1; have r2 : wq.cell? ⟨β.s, 2, none⟩ = some (.pointer (some ⟨β.u, 0, none⟩)) := blk_cell hq 2; have r3 : wq.cell? ⟨β.s, 3, none⟩ = some (.pointer (some ⟨β.r, 0, none⟩)) := blk_cell hq 3; clear hq; first | (go_simp; done) | (go_simp; with_reducible rfl)
  simp only [Act.put, List.setIfInBounds_toArray, List.set_cons_zero, List.set_cons_succ]
  refine wpAnyH_take (i := 6) (oi := ⟨some 46, _, _, _, _, _⟩) (v := ?_) rfl (by kernel_rfl) (by kernel_rfl) (by kernel_rfl) (fun _ _ _ h => h) (Or.inl ⟨by kernel_rfl, ?_⟩) hH ?_
  rotate_left 1
  · intro wq hq; have r0 : wq.cell? ⟨β.s, 0, none⟩ = some (.pointer (some ⟨β.c, 0, none⟩)) := blk_cell hq 0; have r1 : wq.cell? ⟨β.s, 1, none⟩ = some (.pointer (some ⟨β.p, 0, none⟩)) := blk_cell hq 1; have r2 : wq.cell? ⟨β.s, 2, none⟩ = some (.pointer (some ⟨β.u, 0, none⟩)) := blk_cell hq 2; have r3 : wq.cell? ⟨β.s, 3, none⟩ = some (.pointer (some ⟨β.r, 0, none⟩)) := blk_cell hq 3; clear hq; first | (go_simp; done) | (go_simp; with_reducible rfl)
  simp only [Act.put, List.setIfInBounds_toArray, List.set_cons_zero, List.set_cons_succ]
  refine wpAnyH_take (i := 8) (oi := ⟨some 48, _, _, _, _, _⟩) (v := ?_) rfl (by kernel_rfl) (by kernel_rfl) (by kernel_rfl) (fun _ _ _ h => h) (Or.inl ⟨by kernel_rfl, ?_⟩) hH ?_
  rotate_left 1
  · intro wq hq; have r0 : wq.cell? ⟨β.s, 0, none⟩ = some (.pointer (some ⟨β.c, 0, none⟩)) := blk_cell hq 0; have r1 : wq.cell? ⟨β.s, 1, none⟩ = some (.pointer (some ⟨β.p, 0, none⟩)) := blk_cell hq 1; have r2 : wq.cell? ⟨β.s, 2, none⟩ = some (.pointer (some ⟨β.u, 0, none⟩)) := blk_cell hq 2; have r3 : wq.cell? ⟨β.s, 3, none⟩ = some (.pointer (some ⟨β.r, 0, none⟩)) := blk_cell hq 3; clear hq; first | (go_simp; done) | (go_simp; with_reducible rfl)
  simp only [Act.put, List.setIfInBounds_toArray, List.set_cons_zero, List.set_cons_succ]
  refine wpAnyH_take (i := 9) (oi := ⟨some 49, _, _, _, _, _⟩) (v := ?_) rfl (by kernel_rfl) (by kernel_rfl) (by kernel_rfl) (fun _ _ _ h => h) (Or.inl ⟨by kernel_rfl, ?_⟩) hH ?_
  rotate_left 1
  · intro wq hq; have r0 : wq.cell? ⟨β.s, 0, none⟩ = some (.pointer (some ⟨β.c, 0, none⟩)) := blk_cell hq 0; have r1 : wq.cell? ⟨β.s, 1, none⟩ = some (.pointer (some ⟨β.p, 0, none⟩)) := blk_cell hq 1; have r2 : wq.cell? ⟨β.s, 2, none⟩ = some (.pointer (some ⟨β.u, 0, none⟩)) := blk_cell hq 2; have r3 : wq.cell? ⟨β.s, 3, none⟩ = some (.pointer (some ⟨β.r, 0, none⟩)) := blk_cell hq 3; clear hq; first | (go_simp; done) | (go_simp; with_reducible rfl)
  simp only [Act.put, List.setIfInBounds_toArray, List.set_cons_zero, List.set_cons_succ]
  refine wpAnyH_take (i := 10) (oi := ⟨some 50, _, _, _, _, _⟩) (v := ?_) rfl (by kernel_rfl) (by kernel_rfl) (by kernel_rfl) (fun _ _ _ h => h) (Or.inl ⟨by kernel_rfl, ?_⟩) hH ?_
  rotate_left 1
  · intro wq hq; have r0 : wq.cell? ⟨β.s, 0, none⟩ = some (.pointer (some ⟨β.c, 0, none⟩)) := blk_cell hq 0; have r1 : wq.cell? ⟨β.s, 1, none⟩ = some (.pointer (some ⟨β.p, 0, none⟩)) := blk_cell hq 1; have r2 : wq.cell? ⟨β.s, 2, none⟩ = some (.pointer (some ⟨β.u, 0, none⟩)) := blk_cell hq 2; have r3 : wq.cell? ⟨β.s, 3, none⟩ = some (.pointer (some ⟨β.r, 0, none⟩)) := blk_cell hq 3; clear hq; first | (go_simp; done) | (go_simp; with_reducible rfl)
  simp only [Act.put, List.setIfInBounds_toArray, List.set_cons_zero, List.set_cons_succ]
  refine wpAnyH_take (i := 11) (oi := ⟨some 51, _, _, _, _, _⟩) (v := ?_) rfl (by kernel_rfl) (by kernel_rfl) (by kernel_rfl) (fun _ _ _ h => h) (Or.inl ⟨by kernel_rfl, ?_⟩) hH ?_
  rotate_left 1
  · intro wq hq; have r0 : wq.cell? ⟨β.s, 0, none⟩ = some (.pointer (some ⟨β.c, 0, none⟩)) := blk_cell hq 0; have r1 : wq.cell? ⟨β.s, 1, none⟩ = some (.pointer (some ⟨β.p, 0, none⟩)) := blk_cell hq 1; have r2 : wq.cell? ⟨β.s, 2, none⟩ = some (.pointer (some ⟨β.u, 0, none⟩)) := blk_cell hq 2; have r3 : wq.cell? ⟨β.s, 3, none⟩ = some (.pointer (some ⟨β.r, 0, none⟩)) := blk_cell hq 3; clear hq; first | (go_simp; done) | (go_simp; with_reducible rfl)
  simp only [Act.put, List.setIfInBounds_toArray, List.set_cons_zero, List.set_cons_succ]
  refine wpAnyH_take (i := 12) (oi := ⟨some 52, _, _, _, _, _⟩) (v := ?_) rfl (by kernel_rfl) (by kernel_rfl) (by kernel_rfl) (fun _ _ _ h => h) (Or.inl ⟨by kernel_rfl, ?_⟩) hH ?_
  rotate_left 1
  · intro wq hq; have r0 : wq.cell? ⟨β.s, 0, none⟩ = some (.pointer (some ⟨β.c, 0, none⟩)) := blk_cell hq 0; have r1 : wq.cell? ⟨β.s, 1, none⟩ = some (.pointer (some ⟨β.p, 0, none⟩)) := blk_cell hq 1; have r2 : wq.cell? ⟨β.s, 2, none⟩ = some (.pointer (some ⟨β.u, 0, none⟩)) := blk_cell hq 2; have r3 : wq.cell? ⟨β.s, 3, none⟩ = some (.pointer (some ⟨β.r, 0, none⟩)) := blk_cell hq 3; clear hq; first | (go_simp; done) | (go_simp; with_reducible rfl)
  simp only [Act.put, List.setIfInBounds_toArray, List.set_cons_zero, List.set_cons_succ]
  refine wpAnyH_ready (rs := [5]) (by kernel_rfl) (by simp) (AllReadyH.cons (o := ⟨some 45, _, _, _, _, _⟩) rfl (fun K hK => ?_) AllReadyH.nil)
  go_simp
  refine (HP.out _ HB3.out.drew).mono ?_
  rintro e w4 ⟨rfl, rfl⟩
  go_wp2_with fail
  refine hK.out _ _ hH (fun hH => ?_)
  clear hK K
  try simp only [Act.put, List.setIfInBounds_toArray, List.set_cons_zero, List.set_cons_succ]
  refine wpAnyH_ready (rs := [7]) (by kernel_rfl) (by simp) (AllReadyH.cons (o := ⟨some 47, _, _, _, _, _⟩) rfl (fun K hK => ?_) AllReadyH.nil)
  go_simp
  refine (HO.out _).mono ?_
  rintro e w4 ⟨rfl, hb⟩
  have HB4 : Hid (Below w.heap.size w w4) := below_then HB3.out.drew hb HB3.out.size
  clear hb
  go_wp2_with fail
  have H4 := Lib.hid (H.out.below HB4.out)
  refine hK.out _ _ H4.out.at_ (fun hH => ?_)
  clear hK K hH
  try simp only [Act.put, List.setIfInBounds_toArray, List.set_cons_zero, List.set_cons_succ]
  refine wpAnyH_ready (rs := [13]) (by kernel_rfl) (by simp) (AllReadyH.cons (o := ⟨some 53, _, _, _, _, _⟩) rfl (fun K hK => ?_) AllReadyH.nil)
  go_simp
  refine (uart_write H4.out.u HSN.out (pmaFind σ.n x).2.2.2 size (Zx size v) HZV.out).mono ?_
  rintro e w5 ⟨rfl, hd⟩
  obtain ⟨sn', h5, t5⟩ := H4.out.uart_to hd (H4.out.ok.u.write _ _ _)
  obtain ⟨er, σ1, hr, HW⟩ : ∃ er σ1, er = (σ.u.write (pmaFind σ.n x).2.2.2 size (Zx size v)).1 ∧ Hid (σ1 = ({ σ with u := (σ.u.write (pmaFind σ.n x).2.2.2 size (Zx size v)).2 } : SocS)) := ⟨_, _, rfl, rfl⟩
  rw [← hr]
  have HW2 : Hid (σ.write4 x size (Zx size v) = (er6 er, σ1.note ⟨σ.cycle, x, size, true, Zx size v, er6 er != 0⟩)) := by show _ = _; rw [hr, HW.out]; rfl
  have HS1 : Hid (σ1.cycle = σ.cycle ∧ σ1.log = σ.log) := by rw [HW.out]; exact ⟨rfl, rfl⟩
  rw [← HW.out] at h5
  have hat : w5.heap[β.s]? = some (.cells (socCells β σ lg) 75 (0, 0)) := by have := h5.at_; rw [HW.out] at this; simp only [socCells] at this ⊢; exact this
  have HT5 : Hid (TT w w5 (SocOwn β lg sn SR) (SocOwn β lg sn' SR)) := TT.step ⟨Turned.of_below HB4.out _, fun _ => .inl⟩ t5
  have H5 := Lib.hid h5
  have HAT := Lib.hid hat
  clear hr HW h5 t5 hat HB3 HB4 H4 HO HP HM HZ HR hd
  go_wp2_with fail
  refine hK.out _ _ HAT.out (fun hH => ?_)
  clear hK K
  try simp only [Act.put, List.setIfInBounds_toArray, List.set_cons_zero, List.set_cons_succ]
  refine wpAnyH_take (i := 14) (oi := ⟨some 12, _, _, _, _, _⟩) (v := ?_) rfl (by kernel_rfl) (by kernel_rfl) (by kernel_rfl) (fun _ _ _ h => h) (Or.inl ⟨by kernel_rfl, ?_⟩) hH ?_
  rotate_left 1
  · intro wq hq; have r0 : wq.cell? ⟨β.s, 0, none⟩ = some (.pointer (some ⟨β.c, 0, none⟩)) := blk_cell hq 0; have r1 : wq.cell? ⟨β.s, 1, none⟩ = some (.pointer (some ⟨β.p, 0, none⟩)) := blk_cell hq 1; have r2 : wq.cell? ⟨β.s, 2, none⟩ = some (.pointer (some ⟨β.u, 0, none⟩)) := blk_cell hq 2; have r3 : wq.cell? ⟨β.s, 3, none⟩ = some (.pointer (some ⟨β.r, 0, none⟩)) := blk_cell hq 3; clear hq; first | (go_simp; done) | (go_simp; with_reducible rfl)
  simp only [Act.put, List.setIfInBounds_toArray, List.set_cons_zero, List.set_cons_succ]
  refine wpAnyH_done (by kernel_rfl) ?_ _
  clear hH
  have HLEN1 : Hid (σ1.log.length < 1000000) := by show _ < _; rw [HS1.out.2]; exact HLN.out
  by_cases her : er = 0
  · subst her
    go_wp2_with fail
    refine (soc_note H5.out HLEN1.out x size true (Zx size v) 0).mono ?_
    rintro e w6 ⟨rfl, hto⟩
    have HTO := Lib.hid (SocTo.after HT5.out hto)
    clear hto
    go_wp2
    go_ret
    refine (HF.out _ _).2 ?_
    rw [HW2.out]
    refine ⟨rfl, ?_⟩
    have := HTO.out
    rw [HS1.out.1] at this
    exact this
  · have hne : (er != 0) = true := by simpa using her
    have h66 : er6 er = 6 := if_neg her
    rw [h66] at HW2
    clear h66 her
    go_wp2_with fail
    refine (soc_note H5.out HLEN1.out x size true (Zx size v) 6).mono ?_
    rintro e w6 ⟨rfl, hto⟩
    have HTO := Lib.hid (SocTo.after HT5.out hto)
    clear hto
    go_wp2
    go_ret
    refine (HF.out _ _).2 ?_
    rw [HW2.out]
    refine ⟨rfl, ?_⟩
    have := HTO.out
    rw [HS1.out.1] at this
    exact this
end Go.Proofs.Ytefcdbpmpnmkjaa
end
section
set_option linter.unusedVariables false
set_option linter.unusedSimpArgs false
namespace Go.Proofs.Ytefcdbpmpnmkjaa
section
open Go.RowKit
set_option maxRecDepth 100000
theorem soc_time_nil (w : World) : Calls Try.prog 19 #[.pointer none] w fun e w' => e = .returned (.int .u64 0) ∧ w = w' := by
  go_enter Try.func19, Try.ntmps19
  go_wp2
  go_ret
  exact ⟨rfl, rfl⟩
theorem soc_cycle_nil (w : World) : Calls Try.prog 15 #[.pointer none] w fun e w' => e = .returned (.int .u64 0) ∧ w = w' := by
  go_enter Try.func15, Try.ntmps15
  go_wp2
  go_ret
  exact ⟨rfl, rfl⟩
theorem soc_lines_nil (w : World) : Calls Try.prog 11 #[.pointer none] w fun e w' => e = .returned (.int .u64 0) ∧ w = w' := by
  go_enter Try.func11, Try.ntmps11
  go_wp2
  go_ret
  exact ⟨rfl, rfl⟩
theorem soc_log_nil (w : World) : Calls Try.prog 14 #[.pointer none] w fun e w' => e = .returned (.slice none 0 0) ∧ w = w' := by
  go_enter Try.func14, Try.ntmps14
  go_wp2
  go_ret
  exact ⟨rfl, rfl⟩
theorem soc_ram_nil (w : World) : Calls Try.prog 20 #[.pointer none] w fun e w' => e = .returned (.pointer none) ∧ w = w' := by
  go_enter Try.func20, Try.ntmps20
  go_wp2
  go_ret
  exact ⟨rfl, rfl⟩
theorem soc_cycle {w : World} {β : SocB} {σ : SocS} {lg sn : Value} {SR : Nat → Prop} (h : SocIs w β σ lg sn SR) : Calls Try.prog 15 #[.pointer (some ⟨β.s, 0, none⟩)] w fun e w' => e = .returned (.int .u64 σ.cycle) ∧ w = w' := by
  have c4 : w.cell? ⟨β.s, 4, none⟩ = some (.int .u64 σ.cycle) := blk_cell h.at_ 4
  clear h
  go_enter Try.func15, Try.ntmps15
  go_wp2
  go_ret
  exact ⟨rfl, rfl⟩
theorem soc_time {w : World} {β : SocB} {σ : SocS} {lg sn : Value} {SR : Nat → Prop} (h : SocIs w β σ lg sn SR) : Calls Try.prog 19 #[.pointer (some ⟨β.s, 0, none⟩)] w fun e w' => e = .returned (.int .u64 σ.c.time) ∧ w = w' := by
  have c0 : w.cell? ⟨β.s, 0, none⟩ = some (.pointer (some ⟨β.c, 0, none⟩)) := blk_cell h.at_ 0
  have HC := Lib.hid h.c
  clear h
  go_enter Try.func19, Try.ntmps19
  go_wp2_with fail
  refine (clint_time HC.out).mono ?_
  rintro e w' ⟨rfl, rfl⟩
  go_wp2
  go_ret
  exact ⟨rfl, rfl⟩
theorem or_u64 (a b : Nat) (ha : a < 2 ^ 64) (hb : b < 2 ^ 64) : bits .or .u64 (a : Int) (b : Int) = ((a ||| b : Nat) : Int) := by
  have h2 : a ||| b < 2 ^ 64 := Nat.or_lt_two_pow ha hb
  show IntKind.u64.wrap ((BitVec.ofInt 64 (a : Int) ||| BitVec.ofInt 64 (b : Int)).toNat : Int) = _
  have e2 : ∀ q : Nat, q < 2 ^ 64 → (BitVec.ofInt 64 (q : Int)).toNat = q := fun q hq => by simp; omega
  rw [BitVec.toNat_or, e2 a ha, e2 b hb, IntKind.wrap_u64]
  omega
def SocS.lns (σ : SocS) : Nat := σ.c.lns ||| σ.p.lns
theorem SocS.lns_lt (σ : SocS) : σ.c.lns < 2 ^ 64 ∧ σ.p.lns < 2 ^ 64 := by
  constructor
  · unfold ClintS.lns
    repeat' split
    all_goals decide
  · unfold Dev.lns
    repeat' split
    all_goals decide
theorem soc_lines {w : World} {β : SocB} {σ : SocS} {lg sn : Value} {SR : Nat → Prop} (h : SocIs w β σ lg sn SR) : Calls Try.prog 11 #[.pointer (some ⟨β.s, 0, none⟩)] w fun e w' => e = .returned (.int .u64 (σ.lns : Nat)) ∧ ∃ n, w' = w.drewN n := by
  have c0 : w.cell? ⟨β.s, 0, none⟩ = some (.pointer (some ⟨β.c, 0, none⟩)) := blk_cell h.at_ 0
  have c1 : w.cell? ⟨β.s, 1, none⟩ = some (.pointer (some ⟨β.p, 0, none⟩)) := blk_cell h.at_ 1
  have HC : Hid (∀ n, Calls Try.prog 37 #[.pointer (some ⟨β.c, 0, none⟩)] (w.drewN n) fun e w' => e = .returned (.int .u64 (σ.c.lns : Nat)) ∧ ∃ k, w' = (w.drewN n).drewN k) := fun n => clint_lines (h.below (below_drewN (Below.refl _ _) n)).c
  have HP : Hid (∀ n, Calls Try.prog 38 #[.pointer (some ⟨β.p, 0, none⟩)] (w.drewN n) fun e w' => e = .returned (.int .u64 (σ.p.lns : Nat)) ∧ ∃ k, w' = (w.drewN n).drewN k) := fun n => plic_lines _ h.ok.p _ _ (h.below (below_drewN (Below.refl _ _) n)).p
  have HPO := Lib.hid h.ok.p
  have eor := or_u64 _ _ σ.lns_lt.1 σ.lns_lt.2
  have HF : Hid (σ.lns = σ.c.lns ||| σ.p.lns) := rfl
  clear h
  go_enter Try.func11, Try.ntmps11
  go_wp2_with fail
  go_quiet (first | (go_at_call 37; exact Calls.quiet_of (HC.out _)) | (go_at_call 38; exact Calls.quiet_of (HP.out _)))
  go_wp2
  go_ret
  rw [HF.out]
  exact ⟨rfl, _, rfl⟩
end
section
open Go.RowKit
set_option maxRecDepth 100000
attribute [local go_sem ↓] ld_dev ld_plc st_dev st_plc
attribute [local go_sem] rl_dev rl_plc rs_dev rs_plc Dev.size_cells Dev.st_ok row_alloc row_drew row_drewN is_alloc is_drew is_drewN row_setCell is_setCell setRow_alloc_new objRow_cells objIs_cells row_setRow_same row_setRow_other is_setRow_same is_setRow_other
theorem lv_rep (w : World) (g : Nat) (C : Array Value) (h : rowIs w g 4 = true) (hC : rowOf w g = C) : (loadVar 40 ⟨g, 0, none⟩).run Try.prog w = .ok (.agg C) w :=
  run_loadV Try.prog 40 _ 4 Try.underlying40 rfl (by kernel_rfl) w g C h hC
theorem third_is (w : World) (a c : Obj) (C : Array Value) (T : TypeId) : (((w.alloc a).alloc (.cells C T)).alloc c).heap[w.heap.size + 1]? = some (.cells C T (0, 0)) := by
  have e : (w.alloc a).heap.size = w.heap.size + 1 := by simp
  rw [← e]
  exact (blk_alloc_old _ _ _ (blk_lt (blk_alloc _ _))).trans (blk_alloc _ _)
theorem base3 (w : World) (a b c : Obj) : Below w.heap.size w (((w.alloc a).alloc b).alloc c) := (((Below.refl _ w).alloc (Nat.le_refl _) a).alloc (by simp) b).alloc (by simp; omega) c
set_option maxHeartbeats 2000000 in
theorem soc_serve_nil (a0 a1 a2 a3 a4 : Int) (q5 q6 : Option Addr) (n5 m5 n6 m6 : Nat) (a7 : Int) (w : World) : Calls Try.prog 13 #[.pointer none, .agg #[.int .i64 a0, .int .i64 a1, .int .i64 a2, .int .u64 a3, .int .i64 a4, .slice q5 n5 m5, .slice q6 n6 m6, .int .i64 a7]] w fun e w' => e = .returned (.agg #[.int .i64 0, .int .i64 0, .slice none 0 0, .bool false]) ∧ Below w.heap.size w w' := by
  go_enter Try.func13, Try.ntmps13
  go_wp2
  all_goals
    exact bodyPost_ret (res_c _ _ _ (w.heap.size + 1) #[.int .i64 0, .int .i64 0, .slice none 0 0, .bool false] rfl (lv_rep _ _ _ (rowIs_of (third_is _ _ _ _ _)) (rowOf_of (third_is _ _ _ _ _))) rfl) rfl ⟨rfl, base3 _ _ _ _⟩
set_option maxHeartbeats 2000000 in
theorem soc_devices_nil (w : World) : Calls Try.prog 17 #[.pointer none] w fun e w' => e = .returned (.agg dev0.cells) ∧ Below w.heap.size w w' := by
  have hz : stOk 22 #[.bool false, .int .u64 0, .int .u64 0, .int .u32 0, .int .u32 0, .int .u32 0, .int .u32 0, .int .u32 0, .int .u32 0, .int .u32 0, .int .u32 0, .int .u32 0, .int .u32 0, .int .u32 0, .int .u32 0, .int .u32 0, .int .u32 0, .int .u32 0, .slice none 0 0, .slice none 0 0, .int .u32 0, .bool false] = true := by simp [stOk, Value.oneCell']
  go_enter Try.func17, Try.ntmps17
  go_wp2
  exact bodyPost_ret (res_c _ _ (w.alloc (.cells dev0.cells 57)) w.heap.size dev0.cells rfl (lv_dev _ _ _ (by rw [is_alloc, if_pos rfl]; rfl) (by rw [row_alloc, if_pos rfl]; rfl)) rfl) rfl ⟨rfl, (Below.refl _ _).alloc (Nat.le_refl _) _⟩
end
end Go.Proofs.Ytefcdbpmpnmkjaa
end
section
set_option linter.unusedVariables false
set_option linter.unusedSimpArgs false
namespace Go.Proofs.Ytefcdbpmpnmkjaa
open Go.RowKit
set_option maxRecDepth 100000 in
set_option maxHeartbeats 1000000 in
theorem ram_fork_nil (w : World) : Calls Try.prog 53 #[.pointer none] w fun e w' => e = .returned (.pointer none) ∧ w = w' := by
  go_enter Try.func53, Try.ntmps53
  go_wp2_with fail
  go_ret
  exact ⟨rfl, rfl⟩
end Go.Proofs.Ytefcdbpmpnmkjaa
end
section
set_option linter.unusedVariables false
set_option linter.unusedSimpArgs false
namespace Go.Proofs.Ytefcdbpmpnmkjaa
open Go.RowKit

end Go.Proofs.Ytefcdbpmpnmkjaa
end
section
set_option linter.unusedVariables false
set_option linter.unusedSimpArgs false
namespace Go.Proofs.Ytefcdbpmpnmkjaa
open Go.RowKit
theorem wf_u8' {a : Int} (h : (Lit.int .u8 a).wf = true) : 0 ≤ a ∧ a ≤ 255 := by simpa [Lit.wf, IntKind.min, IntKind.max, IntKind.signed, IntKind.bits] using h
theorem wf_u64' {a : Int} (h : (Lit.int .u64 a).wf = true) : 0 ≤ a ∧ a ≤ 18446744073709551615 := by simpa [Lit.wf, IntKind.min, IntKind.max, IntKind.signed, IntKind.bits] using h
theorem wf_i64' {a : Int} (h : (Lit.int .i64 a).wf = true) : -9223372036854775808 ≤ a ∧ a ≤ 9223372036854775807 := by simpa [Lit.wf, IntKind.min, IntKind.max, IntKind.signed, IntKind.bits] using h
/-- the first n numbers of z -/
def listOf (z : Nat → Int) (n : Nat) : List Int := (List.range n).map z
theorem listOf_len (z : Nat → Int) (n : Nat) : (listOf z n).length = n := by simp [listOf]
theorem listOf_getD (z : Nat → Int) (n i : Nat) (h : i < n) : (listOf z n).getD i 0 = z i := by simp [listOf, List.getD, h]
theorem argB {w : World} {a : Option Addr} {len cap : Nat} {z : Nat → Int} (h : ArgRow w a len cap (fun i => .int .u8 (z i))) (hz : ∀ i, (Lit.int .u8 (z i)).wf = true) {n : Nat} (hn : n ≤ cap) : IsB w a n (listOf z n) := by
  refine ⟨listOf_len _ _, fun x hx => ?_, ?_⟩
  · simp only [listOf, List.mem_map] at hx
    obtain ⟨i, _, rfl⟩ := hx
    exact wf_u8' (hz i)
  · rcases h.form with h0 | ⟨b, o, rfl, hb⟩
    · exact .inl ⟨h0, by have := h.nil h0; omega⟩
    · right
      refine ⟨b, o, rfl, fun i hi => ?_⟩
      obtain ⟨b', o', h1, _, h3⟩ := h.row (by omega)
      cases h1
      rw [h3 i (by omega), listOf_getD _ _ _ hi]
/-- an argument's cells lie in none of the blocks that are made since -/
theorem ArgRow.apart {w : World} {a : Option Addr} {len cap : Nat} {V : Nat → Value} (h : ArgRow w a len cap V) {S : Nat → Prop} (hS : ∀ g, S g → w.heap.size ≤ g) : Apart S a := by
  rintro b o s rfl hb
  rcases h.form with h0 | ⟨b', o', h1, h2⟩
  · cases h0
  · cases h1
    have := hS b hb
    omega
end Go.Proofs.Ytefcdbpmpnmkjaa
end
section
set_option linter.unusedVariables false
set_option linter.unusedSimpArgs false
namespace Go.Proofs.Ytefcdbpmpnmkjaa
open Go.RowKit
/-- a memory with an image, in new blocks -/
def Loaded (w : World) (n : Nat) (l : List Int) (m : Nat) (e : Ending) (w' : World) : Prop :=
  ∃ b S, e = .returned (.tuple #[.pointer (some ⟨b, 0, none⟩), .int .i64 0]) ∧ RamAt w' b n (putTo (fun _ => 0) 0 (fun i => (l.getD i 0).toNat) (fun _ => true) m) S ∧ (∀ g, S g → w.heap.size ≤ g) ∧ w.heap.size ≤ b ∧ Below w.heap.size w w'
/-- no memory, and that error -/
def NoLoad (w : World) (k : Int) (e : Ending) (w' : World) : Prop := e = .returned (.tuple #[.pointer none, .int .i64 k]) ∧ Below w.heap.size w w'
set_option maxRecDepth 100000 in
set_option maxHeartbeats 2000000 in
theorem rom_load_arg (n : Int) (h : n < 4 ∨ 256 < n) (a : Option Addr) (m c : Nat) (w : World) : Calls Try.prog 21 #[.int .i64 n, .slice a m c] w (NoLoad w 1) := by
  have H := Lib.hid (ram_new_arg n h w)
  have HB := Lib.hid (Below.refl w.heap.size w)
  clear h
  go_enter Try.func21, Try.ntmps21
  go_wp2_with fail
  refine H.out.mono ?_
  rintro e w1 ⟨rfl, rfl⟩
  go_wp2_with fail
  go_ret2
  exact ⟨rfl, HB.out⟩
set_option maxRecDepth 100000 in
set_option maxHeartbeats 2000000 in
theorem rom_load_full (n : Nat) (h4 : 4 ≤ n) (h256 : n ≤ 256) (a : Option Addr) (m c : Nat) (hm : (n : Int) * 4096 < m) (hm2 : (m : Int) ≤ 9223372036854775807) (w : World) : Calls Try.prog 21 #[.int .i64 n, .slice a m c] w (NoLoad w 3) := by
  have h1 : (4 : Int) ≤ n := by omega
  have h2 : (n : Int) ≤ 256 := by omega
  have hN := Lib.hid (And.intro h4 h256)
  clear h4 h256
  go_enter Try.func21, Try.ntmps21
  go_wp2_with fail
  refine (ram_new n hN.out.1 hN.out.2 w).mono ?_
  rintro e w1 ⟨b, S, rfl, hat, hS, hb, hw⟩
  have HW := Lib.hid hw
  clear hat hw hS hb
  go_wp2_with fail
  go_ret2
  exact ⟨rfl, HW.out⟩
set_option maxRecDepth 100000 in
set_option maxHeartbeats 2000000 in
theorem rom_load_ok (n : Nat) (h4 : 4 ≤ n) (h256 : n ≤ 256) (a : Option Addr) (m c : Nat) (hm : (m : Int) ≤ (n : Int) * 4096) (w : World) (l : List Int) (hl : IsB w a m l) (hp : ∀ S : Nat → Prop, (∀ g, S g → w.heap.size ≤ g) → Apart S a) :
    Calls Try.prog 21 #[.int .i64 n, .slice a m c] w (Loaded w n l m) := by
  have h1 : (4 : Int) ≤ n := by omega
  have h2 : (n : Int) ≤ 256 := by omega
  have hN := Lib.hid (And.intro h4 h256)
  have HL := Lib.hid hl
  have HP := Lib.hid hp
  have HM := Lib.hid (show ramAll n 2147483648 m = true by
    simp only [ramAll, isRam, Bool.or_eq_true, Bool.and_eq_true, decide_eq_true_eq]
    omega)
  clear h4 h256 hl hp
  go_enter Try.func21, Try.ntmps21
  go_wp2_with fail
  refine (ram_new n hN.out.1 hN.out.2 w).mono ?_
  rintro e w1 ⟨b, S, rfl, hat, hS, hb, hw⟩
  have HW := Lib.hid hw
  have H := Lib.hid hat
  have HS := Lib.hid hS
  have HBB := Lib.hid hb
  have HL1 := Lib.hid (isB_turned HL.out (Turned.of_below HW.out (fun _ => False)) (fun _ _ _ _ e => e))
  clear hat hw hS hb
  go_wp2_with fail
  refine (ram_write_ok H.out 2147483648 (by omega) (by omega) a m c HM.out l HL1.out (HP.out S HS.out)).mono ?_
  rintro e w2 ⟨rfl, hto⟩
  obtain ⟨S2, hat2, ht2, hs2⟩ := hto
  have HS2 : Hid (∀ g, S2 g → w.heap.size ≤ g) := fun g hg => by
    rcases hs2 g hg with h | h
    · exact HS.out g h
    · have := HW.out.size; omega
  have HW2 : Hid (Below w.heap.size w w2) := HW.out.trans (ht2.below HW.out.size HS.out)
  have H2 := Lib.hid hat2
  clear ht2 hs2 hat2 H HS HW
  go_wp2_with fail
  go_ret2
  exact ⟨b, S2, rfl, H2.out, HS2.out, HBB.out, HW2.out⟩
theorem drewN_below (w : World) (k : Nat) : Below w.heap.size w (w.drewN k) := ⟨rfl, rfl, rfl, Nat.le_refl _, fun _ _ => rfl⟩
end Go.Proofs.Ytefcdbpmpnmkjaa
end
section
set_option linter.unusedVariables false
set_option linter.unusedSimpArgs false
namespace Go.Proofs.Ytefcdbpmpnmkjaa
open Go.RowKit
set_option maxRecDepth 100000
def soc0 (n : Nat) (ct : Nat → Nat) : SocS := ⟨clint0, dev0, uart0, n, ct, 0, 0, []⟩
theorem soc0_ok (n : Nat) (ct : Nat → Nat) : (soc0 n ct).Ok := ⟨clint0_ok, dev0_ok, uart0_ok, by show 0 < 2 ^ 64; decide, by show 0 < 2 ^ 32; decide⟩
/-- a soc of the call's own -/
def SocNew (w : World) (σ : SocS) (e : Ending) (w' : World) : Prop := ∃ β S, e = .returned (.tuple #[.pointer (some ⟨β.s, 0, none⟩), .int .i64 0]) ∧ SocAt w' β σ S ∧ (∀ g, S g → w.heap.size ≤ g) ∧ Below w.heap.size w w'
theorem soc_new_at {w w1 : World} {n r : Nat} {ct : Nat → Nat} {SR : Nat → Prop} (hb : Below w.heap.size w w1) (hr : RamAt w1 r n ct SR) (hS : ∀ g, SR g → w.heap.size ≤ g) {wc wp wu ws : World} (hc : wc = w1.alloc (.cells clint0.cells 102)) (hp : wp = wc.alloc (.cells dev0.cells 104)) (hu : wu = wp.alloc (.cells (uart0.cells (.slice none 0 0)) 107))
    (hs : ws = wu.alloc (.cells (socCells ⟨wu.heap.size, w1.heap.size, wc.heap.size, wp.heap.size, r⟩ (soc0 n ct) (.slice none 0 0)) 75)) :
    SocNew w (soc0 n ct) (.returned (.tuple #[.pointer (some ⟨wu.heap.size, 0, none⟩), .int .i64 0])) ws := by
  have b1 : Below w1.heap.size w1 wc := hc ▸ (Below.refl _ _).alloc (Nat.le_refl _) _
  have b2 : Below wc.heap.size wc wp := hp ▸ (Below.refl _ _).alloc (Nat.le_refl _) _
  have b3 : Below wp.heap.size wp wu := hu ▸ (Below.refl _ _).alloc (Nat.le_refl _) _
  have b4 : Below wu.heap.size wu ws := hs ▸ (Below.refl _ _).alloc (Nat.le_refl _) _
  have c34 := below_then b3 b4 b3.size
  have c24 := below_then b2 c34 b2.size
  have c14 := below_then b1 c24 b1.size
  have s1 := b1.size; have s2 := b2.size; have s3 := b3.size; have s4 := b4.size; have s0 := hb.size
  have k1 : ClintAt wc w1.heap.size clint0 := hc ▸ blk_alloc _ _
  have k2 : PlicAt wp wc.heap.size dev0 := hp ▸ blk_alloc _ _
  have k3 : UartAt wu wp.heap.size uart0 (.slice none 0 0) := hu ▸ uart_new_at wp
  have k4 : ws.heap[wu.heap.size]? = some (.cells (socCells ⟨wu.heap.size, w1.heap.size, wc.heap.size, wp.heap.size, r⟩ (soc0 n ct) (.slice none 0 0)) 75 (0, 0)) := hs ▸ blk_alloc _ _
  refine ⟨⟨wu.heap.size, w1.heap.size, wc.heap.size, wp.heap.size, r⟩, SocOwn ⟨wu.heap.size, w1.heap.size, wc.heap.size, wp.heap.size, r⟩ (.slice none 0 0) (.slice none 0 0) SR, rfl, ⟨_, _, _, ⟨k4, blk_below c24 (blk_lt k1) k1, blk_below c34 (blk_lt k2) k2, ⟨blk_below b4 (blk_lt k3.1) k3.1, own_below k3.2 b4⟩, RamAt.below hr c14, World.ownsRow_nil _ _ _ _, soc0_ok _ _⟩, rfl⟩, fun g hg => ?_, below_then hb c14 hb.size⟩
  rcases hg with rfl | rfl | rfl | rfl | hg | hg | hg
  · show _ ≤ wu.heap.size; omega
  · exact s0
  · show _ ≤ wc.heap.size; omega
  · show _ ≤ wp.heap.size; omega
  · exact hS g hg
  · cases hg
  · cases hg
set_option maxHeartbeats 2000000 in
theorem soc_new (n : Nat) (h4 : 4 ≤ n) (h256 : n ≤ 256) (w : World) :
    Calls Try.prog 7 #[.int .i64 n, .slice none 0 0] w (SocNew w (soc0 n (fun _ => 0))) := by
  have HL := Lib.hid (rom_load_ok n h4 h256 none 0 0 (by omega) w [] ⟨rfl, fun x hx => (nomatch hx), .inl ⟨rfl, rfl⟩⟩ (fun S _ b o f e => nomatch e))
  clear h4 h256
  go_enter Try.func7, Try.ntmps7
  go_wp2_with fail
  refine HL.out.mono ?_
  rintro e w1 ⟨r, SR, rfl, hr, hS, hrb, hb⟩
  have HR := Lib.hid hr; have HS := Lib.hid hS; have HB := Lib.hid hb
  clear hr hS hb hrb HL
  go_wp2_with fail
  refine (clint_new w1).mono ?_
  rintro e wc ⟨rfl, hc⟩
  have HC := Lib.hid hc
  clear hc
  go_wp2_with fail
  refine (plic_new wc).mono ?_
  rintro e wp ⟨rfl, hp⟩
  have HP := Lib.hid hp
  clear hp
  go_wp2_with fail
  refine (uart_new wp).mono ?_
  rintro e wu ⟨rfl, hu⟩
  have HU := Lib.hid hu
  clear hu
  go_wp2
  go_ret2
  exact soc_new_at HB.out HR.out HS.out HC.out HP.out HU.out rfl
end Go.Proofs.Ytefcdbpmpnmkjaa
end
section
set_option linter.unusedVariables false
set_option linter.unusedSimpArgs false
namespace Go.Proofs.Ytefcdbpmpnmkjaa
open Go.RowKit
set_option maxRecDepth 100000
/-- a soc of the call's own; nothing that was there has turned -/
def SocHere (W : World) (β : SocB) (σ : SocS) (w : World) : Prop := ∃ S, SocAt w β σ S ∧ (∀ g, S g → W.heap.size ≤ g) ∧ Below W.heap.size W w
theorem SocHere.to {W w w' : World} {β : SocB} {σ' : SocS} {S : Nat → Prop} (hS : ∀ g, S g → W.heap.size ≤ g) (hb : Below W.heap.size W w) (k : SocTo w w' β σ' S) : SocHere W β σ' w' := by
  obtain ⟨S', h1, h2, h3⟩ := k
  exact ⟨S', h1, fun g hg => (h3 g hg).elim (hS g) fun e => Nat.le_trans hb.size e, turned_below hb h2 hS hb.size⟩
theorem SocHere.below {W w w' : World} {β : SocB} {σ : SocS} (h : SocHere W β σ w) (hb : Below w.heap.size w w') : SocHere W β σ w' := by
  obtain ⟨S, h1, h2, h3⟩ := h
  exact ⟨S, h1.below hb, h2, below_then h3 hb h3.size⟩
theorem SocHere.keeps {W w : World} {β : SocB} {σ : SocS} (h : SocHere W β σ w) : Below W.heap.size W w := by
  obtain ⟨S, h1, h2, h3⟩ := h
  exact h3
theorem shere_new (n : Nat) (h4 : 4 ≤ n) (h256 : n ≤ 256) (w : World) : Calls Try.prog 7 #[.int .i64 n, .slice none 0 0] w fun e w' => ∃ β, e = .returned (.tuple #[.pointer (some ⟨β.s, 0, none⟩), .int .i64 0]) ∧ SocHere w β (soc0 n (fun _ => 0)) w' :=
  (soc_new n h4 h256 w).mono fun e w' ⟨β, S, h1, h2, h3, h4⟩ => ⟨β, h1, S, h2, h3, h4⟩
theorem shere_tick {W w : World} {β : SocB} {σ : SocS} (h : SocHere W β σ w) (l rx q2 q3 : Int) : Calls Try.prog 10 #[.pointer (some ⟨β.s, 0, none⟩), .agg #[.int .i64 l, .int .i64 rx, .int .i64 q2, .int .i64 q3]] w fun e w' => e = .returned (.tuple #[]) ∧ SocHere W β (σ.tick l rx) w' := by
  obtain ⟨S, h1, h2, h3⟩ := h
  exact (soc_tick h1 l rx q2 q3).mono fun e w' ⟨k1, k2⟩ => ⟨k1, .to h2 h3 k2⟩
theorem shere_cycle {W w : World} {β : SocB} {σ : SocS} (h : SocHere W β σ w) : Calls Try.prog 15 #[.pointer (some ⟨β.s, 0, none⟩)] w fun e w' => e = .returned (.int .u64 σ.cycle) ∧ w = w' := by
  obtain ⟨S, ⟨lg, sn, SR, h1, rfl⟩, h2, h3⟩ := h
  exact soc_cycle h1
theorem shere_devices {W w : World} {β : SocB} {σ : SocS} (h : SocHere W β σ w) (hs : σ.u.sent.length < 1000000) : Calls Try.prog 17 #[.pointer (some ⟨β.s, 0, none⟩)] w (DevsIs w σ) := by
  obtain ⟨S, ⟨lg, sn, SR, h1, rfl⟩, h2, h3⟩ := h
  exact soc_devices h1 hs
theorem shere_write4 {W w : World} {β : SocB} {σ : SocS} (h : SocHere W β σ w) (x : Nat) (hx : x < 2 ^ 64) (size : Int) (v : Nat) (hv : v < 2 ^ 64) (hm : socErr σ.n x size 2 = 0) (hk : (pmaFind σ.n x).1 = 4) (hlen : σ.log.length < 1000000) (hsn : σ.u.sent.length < 1000000) :
    Calls Try.prog 9 #[.pointer (some ⟨β.s, 0, none⟩), .int .u64 x, .int .i64 size, .int .u64 v] w fun e w' => e = .returned (.int .i64 (σ.write4 x size (Zx size v)).1) ∧ SocHere W β (σ.write4 x size (Zx size v)).2 w' := by
  obtain ⟨S, ⟨lg, sn, SR, h1, rfl⟩, h2, h3⟩ := h
  exact (soc_write4 h1 x hx size v hv hm hk hlen hsn).mono fun e w' ⟨k1, k2⟩ => ⟨k1, .to h2 h3 k2⟩
def sawA : SocS := ({ soc0 4 (fun _ => 0) with u := { uart0 with sent := [65] } } : SocS).note ⟨0, 268435456, 4, true, 65, false⟩
theorem awake_write {W w : World} {β : SocB} (h : SocHere W β (soc0 4 (fun _ => 0)) w) : Calls Try.prog 9 #[.pointer (some ⟨β.s, 0, none⟩), .int .u64 268435456, .int .i64 4, .int .u64 65] w fun e w' => e = .returned (.int .i64 0) ∧ SocHere W β sawA w' :=
  shere_write4 h 268435456 (by decide) 4 65 (by decide) (by decide) (by decide) (by decide) (by decide)
theorem isB_own {w : World} {base : Nat} {a : Option Addr} {n c : Nat} {l : List Int} (h : w.ownsRow base 5 1 (.slice a n c) n (l.map (Value.int .u8))) (hn : l.length = n) (hl : ∀ x ∈ l, 0 ≤ x ∧ x ≤ 255) : IsB w a n l := by
  obtain ⟨_, ⟨h1, h2⟩ | ⟨g, cap, cur, h1, _, hg, hn2, hcm, hcs, ht⟩⟩ := h
  · cases h1; exact ⟨hn, hl, .inl ⟨rfl, rfl⟩⟩
  · cases h1
    refine ⟨hn, hl, .inr ⟨g, 0, rfl, fun i hi => ?_⟩⟩
    show w.cell? ⟨g, 0 + i, none⟩ = _
    have hi' : i < l.length := by omega
    have : (cur.toList.take (n * 1))[i]? = some (.int .u8 (l.getD i 0)) := by rw [ht]; simp [List.getD, hi']
    rw [Nat.zero_add, blk_cell hg i, ← this, List.getElem?_take_of_lt (by omega), Array.getElem?_toList]
theorem tick_sawA : (sawA.tick 0 (-1)).u = sawA.u ∧ (sawA.tick 0 (-1)).cycle = 1 := ⟨rfl, rfl⟩
theorem fld_tx (d : Dev) (w : World) : (Instr.field 57 (.agg d.cells) 10).run Try.prog w = .ok (.slice d.txa d.txl d.txc) w := by kernel_rfl
set_option maxHeartbeats 2000000 in
theorem awake_ok (w : World) : Calls Try.prog 8 #[] w fun e w' => e = .returned (.bool true) ∧ Below w.heap.size w w' := by
  have hf := fld_tx
  go_enter Try.func8, Try.ntmps8
  go_wp2_with fail
  refine (shere_new 4 (by decide) (by decide) w).mono ?_
  rintro e w1 ⟨β, rfl, h1⟩
  have H1 := Lib.hid h1
  clear h1
  go_wp2_with fail
  refine (awake_write H1.out).mono ?_
  rintro e w2 ⟨rfl, h2⟩
  have H2 := Lib.hid h2
  clear h2 H1
  go_wp2_with fail
  refine (shere_tick H2.out 0 (-1) 0 0).mono ?_
  rintro e w3 ⟨rfl, h3⟩
  have H3 := Lib.hid h3
  have hu : (sawA.tick 0 (-1)).u.sent = [65] := by rw [tick_sawA.1]; rfl
  have hcy : (sawA.tick 0 (-1)).cycle = 1 := tick_sawA.2
  clear h3 H2
  generalize sawA.tick 0 (-1) = σ at *
  go_wp2_with fail
  refine (shere_devices H3.out (by rw [hu]; decide)).mono ?_
  rintro e w4 ⟨ra, rc, ta, tc, rfl, hr, hb⟩
  have H4 := Lib.hid (H3.out.below hb)
  have hrow := hr.2.1
  rw [hu] at hrow
  have hl : σ.u.sent.length = 1 := by rw [hu]; rfl
  have hk : (convert 37 9 (.slice ta 1 tc)).run Try.prog w4 = .ok (.string ⟨#[65]⟩) w4 := run_bytes_str (isB_own hrow rfl (by simp)) tc
  have hd : ∀ w, (Instr.field 57 (.agg (σ.dev ra rc ta tc).cells) 10).run Try.prog w = .ok (.slice ta 1 tc) w := fun w => by rw [hf (σ.dev ra rc ta tc) w, ← hl]; rfl
  have HB := Lib.hid hb
  clear hr hb hrow H3 hu hl hf
  generalize σ.dev ra rc ta tc = d at *
  go_wp2_with fail
  refine (shere_cycle H4.out).mono ?_
  rintro e w5 ⟨rfl, rfl⟩
  rw [hcy]
  go_wp2
  go_ret
  exact ⟨rfl, H4.out.keeps⟩
end Go.Proofs.Ytefcdbpmpnmkjaa
end
