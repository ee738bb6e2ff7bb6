/- Contracts of the soc's Read and Write: at memory, at the ROM, at a device, refused. No condition. -/
import Derived.Test.YtefcdbpmpnmkjaaPack8
import Derived.Test.YtefcdbpmpnmkjaaPack6
import Derived.StillTailTactics
import Derived.BigRegion
import Derived.Deep.RegionWith
import Derived.Deep.RegionHeld3
import Derived.Deep.QuietTactic
import Derived.BigQuiet
import Derived.Deep.DeepFit
import Derived.Deep.DeepMust
import Derived.Handy
section
set_option linter.unusedVariables false
set_option linter.unusedSimpArgs false
namespace Go.Proofs.Ytefcdbpmpnmkjaa
open Go.RowKit
set_option maxRecDepth 100000
def readE (n : Nat) (x k : Int) : Int := if k < 0 then 1 else if ramAll n x k then 0 else 6
def readL (n : Nat) (ct : Nat → Nat) (x k : Int) : List Int := if readE n x k = 0 then bytesAt ct (x - 2147483648).toNat k.toNat else []
/-- those bytes, and an error's number -/
def ReadA (w : World) (er : Int) (l : List Int) (e : Ending) (w' : World) : Prop := ∃ v, e = .returned (.tuple #[v, .int .i64 er]) ∧ w'.ownsRow w.heap.size 5 1 v l.length (l.map (Value.int .u8)) ∧ Below w.heap.size w w'
theorem ReadA.no {w w' : World} {er : Int} {e : Ending} (h : NoBytes w er e w') : ReadA w er [] e w' := ⟨_, h.1, ⟨rfl, .inl ⟨rfl, rfl⟩⟩, h.2⟩
theorem ReadA.own {w w' : World} {k : Nat} {l : List Int} {e : Ending} (hl : l.length = k) (h : OwnBytes w k l e w') : ReadA w 0 l e w' := by
  subst hl; exact h
theorem ram_read_any {w : World} {b n : Nat} {ct : Nat → Nat} {S : Nat → Prop} (h : RamAt w b n ct S) (x : Int) (x0 : 0 ≤ x) (x1 : x < 18446744073709551616) (k : Int) (k1 : k ≤ 200) :
    Calls Try.prog 64 #[.pointer (some ⟨b, 0, none⟩), .int .u64 x, .int .i64 k] w (ReadA w (readE n x k) (readL n ct x k)) := by
  unfold readL readE
  by_cases hk : k < 0
  · rw [if_pos hk, if_neg (by omega)]
    exact (ram_read_neg b x k hk w).mono fun _ _ h => ReadA.no h
  · obtain ⟨q, rfl⟩ := Int.eq_ofNat_of_zero_le (show 0 ≤ k by omega)
    rw [if_neg hk]
    cases ha : ramAll n x q with
    | true => simp only [if_true]; exact (ram_read_ok h x x0 x1 q ha).mono fun _ _ h => ReadA.own (bytesAt_len _ _ _) h
    | false => simp only [Bool.false_eq_true, if_false]; rw [if_neg (by omega)]; exact (ram_read_bus h x x0 x1 q (by omega) (by omega) ha).mono fun _ _ h => ReadA.no h
def wordV (n : Nat) (ct : Nat → Nat) (x k : Int) : Nat := if mayErr n x k = 0 then wordAt ct (x - 2147483648).toNat k.toNat else 0
theorem ram_word_any {w : World} {b n : Nat} {ct : Nat → Nat} {S : Nat → Prop} (h : RamAt w b n ct S) (x : Int) (x0 : 0 ≤ x) (x1 : x < 18446744073709551616) (k : Int) :
    Calls Try.prog 41 #[.pointer (some ⟨b, 0, none⟩), .int .u64 x, .int .i64 k] w (WordOr w · · (mayErr n x k) (wordV n ct x k)) := by
  unfold wordV
  by_cases hm : mayErr n x k = 0
  · rw [if_pos hm, hm]; exact ram_word_ok h x x0 x1 k hm
  · rw [if_neg hm]; exact ram_word_err h x x0 x1 k hm
theorem RamTo.of_below' {w w' : World} {b n : Nat} {ct : Nat → Nat} {S : Nat → Prop} (h : RamAt w b n ct S) (hb : Below w.heap.size w w') : RamTo w w' b n ct S := h.to.below hb
def putC (n : Nat) (ct : Nat → Nat) (x k : Int) (v : Nat) : Nat → Nat := if mayErr n x k = 0 then putWord ct (x - 2147483648).toNat k.toNat v else ct
theorem ram_put_any {w : World} {b n : Nat} {ct : Nat → Nat} {S : Nat → Prop} (h : RamAt w b n ct S) (x : Int) (x0 : 0 ≤ x) (x1 : x < 18446744073709551616) (k : Int) (v : Nat) :
    Calls Try.prog 32 #[.pointer (some ⟨b, 0, none⟩), .int .u64 x, .int .i64 k, .int .u64 v] w fun e w' => e = .returned (.int .i64 (mayErr n x k)) ∧ RamTo w w' b n (putC n ct x k v) S := by
  unfold putC
  by_cases hm : mayErr n x k = 0
  · rw [if_pos hm, hm]; exact ram_put_ok h x x0 x1 k v hm
  · rw [if_neg hm]; exact (ram_put_err h x x0 x1 k v hm).mono fun _ _ q => ⟨q.1, h.to.below q.2⟩
theorem putTo_congr {ct : Nat → Nat} {off : Nat} {l l2 : Nat → Nat} {st st2 : Nat → Bool} : ∀ k, (∀ i, i < k → l i = l2 i ∧ st i = st2 i) → putTo ct off l st k = putTo ct off l2 st2 k
  | 0, _ => rfl
  | k + 1, h => by
    unfold putTo
    rw [putTo_congr k fun i hi => h i (by omega), (h k (by omega)).1, (h k (by omega)).2]
def someE (n : Nat) (x : Int) (k : Nat) : Int := if ramAll n x k then 0 else 6
def someC (n : Nat) (ct : Nat → Nat) (x : Int) (V : Nat → Int) (st : Nat → Bool) (k : Nat) : Nat → Nat := if ramAll n x k then putTo ct (x - 2147483648).toNat (fun i => (V i).toNat) st k else ct
theorem ram_some_any {w : World} {b n : Nat} {ct : Nat → Nat} {S : Nat → Prop} (h : RamAt w b n ct S) (x : Int) (x0 : 0 ≤ x) (x1 : x < 18446744073709551616) (a a2 : Option Addr) (k c m2 c2 : Nat) (hk : (k : Int) ≤ 200) (V : Nat → Int) (hl : IsB w a k (listOf V k)) (al : Apart S a)
    (z : Nat → Bool) (hz : IsRow w a2 m2 (fun i => .bool (z i))) (az : Apart S a2) (hm2 : (m2 : Int) ≤ 9223372036854775807) :
    Calls Try.prog 43 #[.pointer (some ⟨b, 0, none⟩), .int .u64 x, .slice a k c, .slice a2 m2 c2] w fun e w' => e = .returned (.int .i64 (someE n x k)) ∧ RamTo w w' b n (someC n ct x V (stAt m2 z) k) S := by
  unfold someE someC
  cases ha : ramAll n x k with
  | true =>
    refine (ram_some_ok h x x0 x1 a a2 k c m2 c2 ha _ hl al z hz az hm2).mono fun _ _ q => ⟨q.1, ?_⟩
    have e := putTo_congr (ct := ct) (off := (x - 2147483648).toNat) (l := fun i => ((listOf V k).getD i 0).toNat) (l2 := fun i => (V i).toNat) (st := stAt m2 z) (st2 := stAt m2 z) k (fun i hi => ⟨by rw [listOf_getD _ _ _ hi], rfl⟩)
    rw [if_pos rfl, ← e]; exact q.2
  | false => exact (ram_some_bus h x x0 x1 a a2 k c m2 c2 (by omega) ha).mono fun _ _ q => ⟨q.1, h.to.below q.2⟩
theorem SocIs.ram_to {w w' : World} {β : SocB} {σ : SocS} {lg sn : Value} {SR : Nat → Prop} (h : SocIs w β σ lg sn SR) {ct : Nat → Nat} (hr : RamTo w w' β.r σ.n ct SR) : SocTo w w' β { σ with ct := ct } (SocOwn β lg sn SR) := by
  obtain ⟨S', h1, h2, h3⟩ := hr
  refine ⟨_, ⟨lg, sn, S', h.ram h2 h1, rfl⟩, h2.mono fun g hg => .inr (.inr (.inr (.inr (.inl hg)))), fun g hg => ?_⟩
  rcases hg with hg | hg | hg | hg | hg | hg | hg
  · exact .inl (.inl hg)
  · exact .inl (.inr (.inl hg))
  · exact .inl (.inr (.inr (.inl hg)))
  · exact .inl (.inr (.inr (.inr (.inl hg))))
  · exact (h3 g hg).elim (fun e => .inl (.inr (.inr (.inr (.inr (.inl e)))))) .inr
  · exact .inl (.inr (.inr (.inr (.inr (.inr (.inl hg))))))
  · exact .inl (.inr (.inr (.inr (.inr (.inr (.inr hg))))))
theorem SocTo.from_below {w w1 w2 : World} {β : SocB} {σ : SocS} {S : Nat → Prop} (hb : Below w.heap.size w w1) (k : SocTo w1 w2 β σ S) : SocTo w w2 β σ S := .after ⟨Turned.of_below hb _, fun _ => .inl⟩ k
/-- the ROM's number -/
def romV (x size : Int) : Nat := wordN (fun i => ((romL (x - 4096).toNat size.toNat).getD i 0).toNat) (min size.toNat 8)
def SocS.read5 (σ : SocS) (x : Nat) (size : Int) : Nat × Int × SocS := (wordV σ.n σ.ct x size, mayErr σ.n x size, σ)
def SocS.read1 (σ : SocS) (x : Nat) (size : Int) : Nat × Int × SocS := (romV x size, 0, σ)
def SocS.write5 (σ : SocS) (x : Nat) (size : Int) (v : Nat) : Int × SocS := (mayErr σ.n x size, { σ with ct := putC σ.n σ.ct x size v })
theorem rom_off {n : Nat} {x size kind : Int} (h : socErr n x size kind = 0) (hk : (pmaFind n x).1 = 1) : (pmaFind n x).2.2.2 = x - 4096 ∧ 4096 ≤ x ∧ x - 4096 + size ≤ 4096 := by
  have hs := sz_of h
  have hr : 4096 ≤ x ∧ x < 8192 := by
    unfold pmaFind at hk
    split at hk
    · assumption
    · split at hk
      · simp at hk
      · split at hk
        · simp at hk
        · split at hk
          · simp at hk
          · split at hk <;> simp at hk
  have e : pmaFind n x = (1, 4096, 4096, x - 4096) := by unfold pmaFind; rw [if_pos hr]
  have hm : pmaMay n x size kind = true := by
    unfold socErr at h
    split at h
    · split at h
      · split at h
        · assumption
        · cases h
      · cases h
    · cases h
  unfold pmaMay at hm
  rw [e] at hm ⊢
  simp at hm
  have h2 := hm.1
  rw [IntKind.wrap_u64] at h2
  refine ⟨rfl, hr.1, ?_⟩
  omega
set_option maxHeartbeats 4000000 in
theorem soc_read_err {w : World} {β : SocB} {σ : SocS} {lg sn : Value} {SR : Nat → Prop} (h : SocIs w β σ lg sn SR) (x : Nat) (hx : x < 2 ^ 64) (size : Int) (hm : socErr σ.n x size 1 ≠ 0) :
    Calls Try.prog 12 #[.pointer (some ⟨β.s, 0, none⟩), .int .u64 x, .int .i64 size] w (ReadIs w β (0, socErr σ.n x size 1, σ) (SocOwn β lg sn SR)) := by
  have HM : Hid (Calls Try.prog 25 #[.pointer (some ⟨β.s, 0, none⟩), .int .u64 x, .int .i64 size, .int .i64 1] w (SocMay σ.n x size 1 w)) := soc_may h x (by omega) (by omega) size 1 (.inl rfl)
  have H := Lib.hid h
  have hne : (socErr σ.n x size 1 != 0) = true := by simpa using hm
  unfold SocMay at HM
  have HF : Hid (∀ e w', ReadIs w β (0, socErr σ.n x size 1, σ) (SocOwn β lg sn SR) e w' ↔ (e = .returned (.tuple #[.int .u64 (0 : Nat), .int .i64 (socErr σ.n x size 1)]) ∧ SocTo w w' β σ (SocOwn β lg sn SR))) := fun _ _ => Iff.rfl
  generalize socErr σ.n x size 1 = k at *
  clear h hm hx
  go_enter Try.func12, Try.ntmps12
  go_wp2_with fail
  refine HM.out.mono ?_
  rintro e w1 ⟨rfl, hb⟩
  have HB := Lib.hid hb
  clear hb
  go_wp2
  go_ret2
  refine (HF.out _ _).2 ?_
  exact ⟨rfl, SocTo.of_below ⟨_, _, _, H.out, rfl⟩ HB.out⟩
set_option maxHeartbeats 4000000 in
theorem soc_write_err {w : World} {β : SocB} {σ : SocS} {lg sn : Value} {SR : Nat → Prop} (h : SocIs w β σ lg sn SR) (x : Nat) (hx : x < 2 ^ 64) (size : Int) (v : Nat) (hm : socErr σ.n x size 2 ≠ 0) :
    Calls Try.prog 9 #[.pointer (some ⟨β.s, 0, none⟩), .int .u64 x, .int .i64 size, .int .u64 v] w (WroteIs w β (socErr σ.n x size 2, σ) (SocOwn β lg sn SR)) := by
  have HM : Hid (Calls Try.prog 25 #[.pointer (some ⟨β.s, 0, none⟩), .int .u64 x, .int .i64 size, .int .i64 2] w (SocMay σ.n x size 2 w)) := soc_may h x (by omega) (by omega) size 2 (.inr rfl)
  have H := Lib.hid h
  have hne : (socErr σ.n x size 2 != 0) = true := by simpa using hm
  unfold SocMay at HM
  have HF : Hid (∀ e w', WroteIs w β (socErr σ.n x size 2, σ) (SocOwn β lg sn SR) e w' ↔ (e = .returned (.int .i64 (socErr σ.n x size 2)) ∧ SocTo w w' β σ (SocOwn β lg sn SR))) := fun _ _ => Iff.rfl
  generalize socErr σ.n x size 2 = k at *
  clear h hm hx
  go_enter Try.func9, Try.ntmps9
  go_wp2_with fail
  refine HM.out.mono ?_
  rintro e w1 ⟨rfl, hb⟩
  have HB := Lib.hid hb
  clear hb
  go_wp2
  go_ret
  refine (HF.out _ _).2 ?_
  exact ⟨rfl, SocTo.of_below ⟨_, _, _, H.out, rfl⟩ HB.out⟩
set_option maxHeartbeats 4000000 in
theorem soc_read5 {w : World} {β : SocB} {σ : SocS} {lg sn : Value} {SR : Nat → Prop} (h : SocIs w β σ lg sn SR) (x : Nat) (hx : x < 2 ^ 64) (size : Int) (hm : socErr σ.n x size 1 = 0) (hk : (pmaFind σ.n x).1 = 5) :
    Calls Try.prog 12 #[.pointer (some ⟨β.s, 0, none⟩), .int .u64 x, .int .i64 size] w (ReadIs w β (σ.read5 x size) (SocOwn β lg sn SR)) := by
  have hlo := h.r.lo
  have HM : Hid (∀ W, Below w.heap.size w W → Calls Try.prog 25 #[.pointer (some ⟨β.s, 0, none⟩), .int .u64 x, .int .i64 size, .int .i64 1] W (fun e w' => e = .returned (.int .i64 0) ∧ Below w.heap.size w w')) := fun W hb => (soc_may (h.below hb) x (by omega) (by omega) size 1 (.inl rfl)).mono fun e w' ⟨h1, h2⟩ => ⟨by rw [h1, hm], below_then hb h2 hb.size⟩
  have HP : Hid (∀ W, Below w.heap.size w W → Calls Try.prog 29 #[.pointer (some ⟨β.r, 0, none⟩)] W fun e w' => e = .returned (.int .i64 σ.n) ∧ W = w') := fun W hb => ram_pages (h.below hb).r
  have HR : Hid (∀ W, Calls Try.prog 28 #[.int .i64 σ.n, .int .u64 x] W fun e w' => e = .returned (.int .i64 5) ∧ Below W.heap.size W w') := fun W => by rw [← hk]; exact pma_region σ.n hlo.1 hlo.2 x (by omega) (by omega) W
  have HO : Hid (∀ W, Calls Try.prog 30 #[.int .i64 σ.n, .int .u64 x] W fun e w' => e = .returned (.int .u64 (pmaFind σ.n x).2.2.2) ∧ Below W.heap.size W w') := fun W => pma_offset σ.n hlo.1 hlo.2 x (by omega) (by omega) W
  have H := Lib.hid h
  have HF : Hid (∀ e w', ReadIs w β (σ.read5 x size) (SocOwn β lg sn SR) e w' ↔ (e = .returned (.tuple #[.int .u64 ((σ.read5 x size).1 : Nat), .int .i64 (σ.read5 x size).2.1]) ∧ SocTo w w' β (σ.read5 x size).2.2 (SocOwn β lg sn SR))) := fun _ _ => Iff.rfl
  have HX : Hid (x < 2 ^ 64) := hx
  clear h hx hm hk hlo
  go_enter Try.func12, Try.ntmps12
  go_wp2_with fail
  refine (HM.out _ (Below.refl _ _)).mono ?_
  rintro e w1 ⟨rfl, hb⟩
  have HB1 := Lib.hid hb
  clear hb
  go_wp2_with fail
  refine wp_region_held_drew (S := fun wq => wq.heap[β.s]? = some (.cells (socCells β σ lg) 75 (0, 0))) (by kernel_rfl) (H.out.below HB1.out).at_ (fun hH => ?_)
  refine wpAnyH_take (i := 0) (oi := ⟨some 24, _, _, _, _, _⟩) (v := ?_) rfl (by kernel_rfl) (by kernel_rfl) (by kernel_rfl) (fun _ _ _ h => h) (Or.inl ⟨by kernel_rfl, ?_⟩) hH ?_
  rotate_left 1
  · intro wq hq; have r0 : wq.cell? ⟨β.s, 0, none⟩ = some (.pointer (some ⟨β.c, 0, none⟩)) := blk_cell hq 0; have r1 : wq.cell? ⟨β.s, 1, none⟩ = some (.pointer (some ⟨β.p, 0, none⟩)) := blk_cell hq 1; have r2 : wq.cell? ⟨β.s, 2, none⟩ = some (.pointer (some ⟨β.u, 0, none⟩)) := blk_cell hq 2; have r3 : wq.cell? ⟨β.s, 3, none⟩ = some (.pointer (some ⟨β.r, 0, none⟩)) := blk_cell hq 3; clear hq; first | (go_simp; done) | (go_simp; with_reducible rfl)
  simp only [Act.put, List.setIfInBounds_toArray, List.set_cons_zero, List.set_cons_succ]
  refine wpAnyH_take (i := 1) (oi := ⟨some 25, _, _, _, _, _⟩) (v := ?_) rfl (by kernel_rfl) (by kernel_rfl) (by kernel_rfl) (fun _ _ _ h => h) (Or.inl ⟨by kernel_rfl, ?_⟩) hH ?_
  rotate_left 1
  · intro wq hq; have r0 : wq.cell? ⟨β.s, 0, none⟩ = some (.pointer (some ⟨β.c, 0, none⟩)) := blk_cell hq 0; have r1 : wq.cell? ⟨β.s, 1, none⟩ = some (.pointer (some ⟨β.p, 0, none⟩)) := blk_cell hq 1; have r2 : wq.cell? ⟨β.s, 2, none⟩ = some (.pointer (some ⟨β.u, 0, none⟩)) := blk_cell hq 2; have r3 : wq.cell? ⟨β.s, 3, none⟩ = some (.pointer (some ⟨β.r, 0, none⟩)) := blk_cell hq 3; clear hq; first | (go_simp; done) | (go_simp; with_reducible rfl)
  simp only [Act.put, List.setIfInBounds_toArray, List.set_cons_zero, List.set_cons_succ]
  refine wpAnyH_take (i := 2) (oi := ⟨some 26, _, _, _, _, _⟩) (v := ?_) rfl (by kernel_rfl) (by kernel_rfl) (by kernel_rfl) (fun _ _ _ h => h) (Or.inl ⟨by kernel_rfl, ?_⟩) hH ?_
  rotate_left 1
  · intro wq hq; have r0 : wq.cell? ⟨β.s, 0, none⟩ = some (.pointer (some ⟨β.c, 0, none⟩)) := blk_cell hq 0; have r1 : wq.cell? ⟨β.s, 1, none⟩ = some (.pointer (some ⟨β.p, 0, none⟩)) := blk_cell hq 1; have r2 : wq.cell? ⟨β.s, 2, none⟩ = some (.pointer (some ⟨β.u, 0, none⟩)) := blk_cell hq 2; have r3 : wq.cell? ⟨β.s, 3, none⟩ = some (.pointer (some ⟨β.r, 0, none⟩)) := blk_cell hq 3; clear hq; first | (go_simp; done) | (go_simp; with_reducible rfl)
  simp only [Act.put, List.setIfInBounds_toArray, List.set_cons_zero, List.set_cons_succ]
  refine wpAnyH_take (i := 3) (oi := ⟨some 27, _, _, _, _, _⟩) (v := ?_) rfl (by kernel_rfl) (by kernel_rfl) (by kernel_rfl) (fun _ _ _ h => h) (Or.inl ⟨by kernel_rfl, ?_⟩) hH ?_
  rotate_left 1
  · intro wq hq; have r0 : wq.cell? ⟨β.s, 0, none⟩ = some (.pointer (some ⟨β.c, 0, none⟩)) := blk_cell hq 0; have r1 : wq.cell? ⟨β.s, 1, none⟩ = some (.pointer (some ⟨β.p, 0, none⟩)) := blk_cell hq 1; have r2 : wq.cell? ⟨β.s, 2, none⟩ = some (.pointer (some ⟨β.u, 0, none⟩)) := blk_cell hq 2; have r3 : wq.cell? ⟨β.s, 3, none⟩ = some (.pointer (some ⟨β.r, 0, none⟩)) := blk_cell hq 3; clear hq; first | (go_simp; done) | (go_simp; with_reducible rfl)
  simp only [Act.put, List.setIfInBounds_toArray, List.set_cons_zero, List.set_cons_succ]
  refine wpAnyH_take (i := 5) (oi := ⟨some 29, _, _, _, _, _⟩) (v := ?_) rfl (by kernel_rfl) (by kernel_rfl) (by kernel_rfl) (fun _ _ _ h => h) (Or.inl ⟨by kernel_rfl, ?_⟩) hH ?_
  rotate_left 1
  · intro wq hq; have r0 : wq.cell? ⟨β.s, 0, none⟩ = some (.pointer (some ⟨β.c, 0, none⟩)) := blk_cell hq 0; have r1 : wq.cell? ⟨β.s, 1, none⟩ = some (.pointer (some ⟨β.p, 0, none⟩)) := blk_cell hq 1; have r2 : wq.cell? ⟨β.s, 2, none⟩ = some (.pointer (some ⟨β.u, 0, none⟩)) := blk_cell hq 2; have r3 : wq.cell? ⟨β.s, 3, none⟩ = some (.pointer (some ⟨β.r, 0, none⟩)) := blk_cell hq 3; clear hq; first | (go_simp; done) | (go_simp; with_reducible rfl)
  simp only [Act.put, List.setIfInBounds_toArray, List.set_cons_zero, List.set_cons_succ]
  refine wpAnyH_take (i := 7) (oi := ⟨some 31, _, _, _, _, _⟩) (v := ?_) rfl (by kernel_rfl) (by kernel_rfl) (by kernel_rfl) (fun _ _ _ h => h) (Or.inl ⟨by kernel_rfl, ?_⟩) hH ?_
  rotate_left 1
  · intro wq hq; have r0 : wq.cell? ⟨β.s, 0, none⟩ = some (.pointer (some ⟨β.c, 0, none⟩)) := blk_cell hq 0; have r1 : wq.cell? ⟨β.s, 1, none⟩ = some (.pointer (some ⟨β.p, 0, none⟩)) := blk_cell hq 1; have r2 : wq.cell? ⟨β.s, 2, none⟩ = some (.pointer (some ⟨β.u, 0, none⟩)) := blk_cell hq 2; have r3 : wq.cell? ⟨β.s, 3, none⟩ = some (.pointer (some ⟨β.r, 0, none⟩)) := blk_cell hq 3; clear hq; first | (go_simp; done) | (go_simp; with_reducible rfl)
  simp only [Act.put, List.setIfInBounds_toArray, List.set_cons_zero, List.set_cons_succ]
  refine wpAnyH_take (i := 8) (oi := ⟨some 32, _, _, _, _, _⟩) (v := ?_) rfl (by kernel_rfl) (by kernel_rfl) (by kernel_rfl) (fun _ _ _ h => h) (Or.inl ⟨by kernel_rfl, ?_⟩) hH ?_
  rotate_left 1
  · intro wq hq; have r0 : wq.cell? ⟨β.s, 0, none⟩ = some (.pointer (some ⟨β.c, 0, none⟩)) := blk_cell hq 0; have r1 : wq.cell? ⟨β.s, 1, none⟩ = some (.pointer (some ⟨β.p, 0, none⟩)) := blk_cell hq 1; have r2 : wq.cell? ⟨β.s, 2, none⟩ = some (.pointer (some ⟨β.u, 0, none⟩)) := blk_cell hq 2; have r3 : wq.cell? ⟨β.s, 3, none⟩ = some (.pointer (some ⟨β.r, 0, none⟩)) := blk_cell hq 3; clear hq; first | (go_simp; done) | (go_simp; with_reducible rfl)
  simp only [Act.put, List.setIfInBounds_toArray, List.set_cons_zero, List.set_cons_succ]
  refine wpAnyH_take (i := 9) (oi := ⟨some 33, _, _, _, _, _⟩) (v := ?_) rfl (by kernel_rfl) (by kernel_rfl) (by kernel_rfl) (fun _ _ _ h => h) (Or.inl ⟨by kernel_rfl, ?_⟩) hH ?_
  rotate_left 1
  · intro wq hq; have r0 : wq.cell? ⟨β.s, 0, none⟩ = some (.pointer (some ⟨β.c, 0, none⟩)) := blk_cell hq 0; have r1 : wq.cell? ⟨β.s, 1, none⟩ = some (.pointer (some ⟨β.p, 0, none⟩)) := blk_cell hq 1; have r2 : wq.cell? ⟨β.s, 2, none⟩ = some (.pointer (some ⟨β.u, 0, none⟩)) := blk_cell hq 2; have r3 : wq.cell? ⟨β.s, 3, none⟩ = some (.pointer (some ⟨β.r, 0, none⟩)) := blk_cell hq 3; clear hq; first | (go_simp; done) | (go_simp; with_reducible rfl)
  simp only [Act.put, List.setIfInBounds_toArray, List.set_cons_zero, List.set_cons_succ]
  refine wpAnyH_take (i := 10) (oi := ⟨some 34, _, _, _, _, _⟩) (v := ?_) rfl (by kernel_rfl) (by kernel_rfl) (by kernel_rfl) (fun _ _ _ h => h) (Or.inl ⟨by kernel_rfl, ?_⟩) hH ?_
  rotate_left 1
  · intro wq hq; have r0 : wq.cell? ⟨β.s, 0, none⟩ = some (.pointer (some ⟨β.c, 0, none⟩)) := blk_cell hq 0; have r1 : wq.cell? ⟨β.s, 1, none⟩ = some (.pointer (some ⟨β.p, 0, none⟩)) := blk_cell hq 1; have r2 : wq.cell? ⟨β.s, 2, none⟩ = some (.pointer (some ⟨β.u, 0, none⟩)) := blk_cell hq 2; have r3 : wq.cell? ⟨β.s, 3, none⟩ = some (.pointer (some ⟨β.r, 0, none⟩)) := blk_cell hq 3; clear hq; first | (go_simp; done) | (go_simp; with_reducible rfl)
  simp only [Act.put, List.setIfInBounds_toArray, List.set_cons_zero, List.set_cons_succ]
  refine wpAnyH_take (i := 12) (oi := ⟨some 36, _, _, _, _, _⟩) (v := ?_) rfl (by kernel_rfl) (by kernel_rfl) (by kernel_rfl) (fun _ _ _ h => h) (Or.inl ⟨by kernel_rfl, ?_⟩) hH ?_
  rotate_left 1
  · intro wq hq; have r0 : wq.cell? ⟨β.s, 0, none⟩ = some (.pointer (some ⟨β.c, 0, none⟩)) := blk_cell hq 0; have r1 : wq.cell? ⟨β.s, 1, none⟩ = some (.pointer (some ⟨β.p, 0, none⟩)) := blk_cell hq 1; have r2 : wq.cell? ⟨β.s, 2, none⟩ = some (.pointer (some ⟨β.u, 0, none⟩)) := blk_cell hq 2; have r3 : wq.cell? ⟨β.s, 3, none⟩ = some (.pointer (some ⟨β.r, 0, none⟩)) := blk_cell hq 3; clear hq; first | (go_simp; done) | (go_simp; with_reducible rfl)
  simp only [Act.put, List.setIfInBounds_toArray, List.set_cons_zero, List.set_cons_succ]
  refine wpAnyH_ready (rs := [4]) (by kernel_rfl) (by simp) (AllReadyH.cons (o := ⟨some 28, _, _, _, _, _⟩) rfl (fun K hK => ?_) AllReadyH.nil)
  go_simp
  refine (HP.out _ HB1.out.drew).mono ?_
  rintro e w2 ⟨rfl, rfl⟩
  go_wp2_with fail
  refine hK.out _ _ hH (fun hH => ?_)
  clear hK K
  try simp only [Act.put, List.setIfInBounds_toArray, List.set_cons_zero, List.set_cons_succ]
  refine wpAnyH_ready (rs := [6]) (by kernel_rfl) (by simp) (AllReadyH.cons (o := ⟨some 30, _, _, _, _, _⟩) rfl (fun K hK => ?_) AllReadyH.nil)
  go_simp
  refine (HR.out _).mono ?_
  rintro e w2 ⟨rfl, hb⟩
  have HB2 : Hid (Below w.heap.size w w2) := below_then HB1.out.drew hb HB1.out.size
  clear hb
  go_wp2_with fail
  refine hK.out _ _ (H.out.below HB2.out).at_ (fun hH => ?_)
  clear hK K
  try simp only [Act.put, List.setIfInBounds_toArray, List.set_cons_zero, List.set_cons_succ]
  refine wpAnyH_ready (rs := [11]) (by kernel_rfl) (by simp) (AllReadyH.cons (o := ⟨some 35, _, _, _, _, _⟩) rfl (fun K hK => ?_) AllReadyH.nil)
  go_simp
  refine (HP.out _ HB2.out).mono ?_
  rintro e w3 ⟨rfl, rfl⟩
  go_wp2_with fail
  refine hK.out _ _ hH (fun hH => ?_)
  clear hK K
  try simp only [Act.put, List.setIfInBounds_toArray, List.set_cons_zero, List.set_cons_succ]
  refine wpAnyH_ready (rs := [13]) (by kernel_rfl) (by simp) (AllReadyH.cons (o := ⟨some 37, _, _, _, _, _⟩) rfl (fun K hK => ?_) AllReadyH.nil)
  go_simp
  refine (HO.out _).mono ?_
  rintro e w3 ⟨rfl, hb⟩
  have HB3 : Hid (Below w.heap.size w w3) := below_then HB2.out hb HB2.out.size
  clear hb
  go_wp2_with fail
  refine hK.out _ _ (H.out.below HB3.out).at_ (fun hH => ?_)
  clear hK K
  try simp only [Act.put, List.setIfInBounds_toArray, List.set_cons_zero, List.set_cons_succ]
  refine wpAnyH_take (i := 14) (oi := ⟨some 9, _, _, _, _, _⟩) (v := ?_) rfl (by kernel_rfl) (by kernel_rfl) (by kernel_rfl) (fun _ _ _ h => h) (Or.inl ⟨by kernel_rfl, ?_⟩) hH ?_
  rotate_left 1
  · intro wq hq; have r0 : wq.cell? ⟨β.s, 0, none⟩ = some (.pointer (some ⟨β.c, 0, none⟩)) := blk_cell hq 0; have r1 : wq.cell? ⟨β.s, 1, none⟩ = some (.pointer (some ⟨β.p, 0, none⟩)) := blk_cell hq 1; have r2 : wq.cell? ⟨β.s, 2, none⟩ = some (.pointer (some ⟨β.u, 0, none⟩)) := blk_cell hq 2; have r3 : wq.cell? ⟨β.s, 3, none⟩ = some (.pointer (some ⟨β.r, 0, none⟩)) := blk_cell hq 3; clear hq; first | (go_simp; done) | (go_simp; with_reducible rfl)
  simp only [Act.put, List.setIfInBounds_toArray, List.set_cons_zero, List.set_cons_succ]
  refine wpAnyH_take (i := 15) (oi := ⟨some 10, _, _, _, _, _⟩) (v := ?_) rfl (by kernel_rfl) (by kernel_rfl) (by kernel_rfl) (fun _ _ _ h => h) (Or.inl ⟨by kernel_rfl, ?_⟩) hH ?_
  rotate_left 1
  · intro wq hq; have r0 : wq.cell? ⟨β.s, 0, none⟩ = some (.pointer (some ⟨β.c, 0, none⟩)) := blk_cell hq 0; have r1 : wq.cell? ⟨β.s, 1, none⟩ = some (.pointer (some ⟨β.p, 0, none⟩)) := blk_cell hq 1; have r2 : wq.cell? ⟨β.s, 2, none⟩ = some (.pointer (some ⟨β.u, 0, none⟩)) := blk_cell hq 2; have r3 : wq.cell? ⟨β.s, 3, none⟩ = some (.pointer (some ⟨β.r, 0, none⟩)) := blk_cell hq 3; clear hq; first | (go_simp; done) | (go_simp; with_reducible rfl)
  simp only [Act.put, List.setIfInBounds_toArray, List.set_cons_zero, List.set_cons_succ]
  refine wpAnyH_done (by kernel_rfl) ?_ _
  clear hH
  have H3 := Lib.hid (H.out.below HB3.out)
  have r0 : w3.cell? ⟨β.s, 0, none⟩ = some (.pointer (some ⟨β.c, 0, none⟩)) := blk_cell H3.out.at_ 0
  have r1 : w3.cell? ⟨β.s, 1, none⟩ = some (.pointer (some ⟨β.p, 0, none⟩)) := blk_cell H3.out.at_ 1
  have r2 : w3.cell? ⟨β.s, 2, none⟩ = some (.pointer (some ⟨β.u, 0, none⟩)) := blk_cell H3.out.at_ 2
  clear HB1 HB2 HM HP HR HO
  go_wp2_with fail
  refine (soc_at0 5 (by decide) (by decide) (by decide) _ _ _ _).mono ?_
  rintro e w4 ⟨rfl, hb⟩
  have HB4 : Hid (Below w.heap.size w w4) := below_then HB3.out hb HB3.out.size
  clear hb r0 r1 r2 H3 HB3
  have H4 := Lib.hid (H.out.below HB4.out)
  have r3 : w4.cell? ⟨β.s, 3, none⟩ = some (.pointer (some ⟨β.r, 0, none⟩)) := blk_cell H4.out.at_ 3
  go_wp2_with fail
  refine (ram_word_any H4.out.r x (by omega) (by have := HX.out; omega) size).mono ?_
  rintro e w5 ⟨rfl, hb⟩
  have HB5 : Hid (Below w.heap.size w w5) := below_then HB4.out hb HB4.out.size
  clear hb r3
  go_wp2
  go_ret2
  refine (HF.out _ _).2 ⟨rfl, ?_⟩
  exact SocTo.of_below ⟨_, _, _, H.out, rfl⟩ HB5.out
set_option maxHeartbeats 4000000 in
theorem soc_read1 {w : World} {β : SocB} {σ : SocS} {lg sn : Value} {SR : Nat → Prop} (h : SocIs w β σ lg sn SR) (x : Nat) (hx : x < 2 ^ 64) (size : Int) (hm : socErr σ.n x size 1 = 0) (hk : (pmaFind σ.n x).1 = 1) :
    Calls Try.prog 12 #[.pointer (some ⟨β.s, 0, none⟩), .int .u64 x, .int .i64 size] w (ReadIs w β (σ.read1 x size) (SocOwn β lg sn SR)) := by
  have hlo := h.r.lo
  have HM : Hid (∀ W, Below w.heap.size w W → Calls Try.prog 25 #[.pointer (some ⟨β.s, 0, none⟩), .int .u64 x, .int .i64 size, .int .i64 1] W (fun e w' => e = .returned (.int .i64 0) ∧ Below w.heap.size w w')) := fun W hb => (soc_may (h.below hb) x (by omega) (by omega) size 1 (.inl rfl)).mono fun e w' ⟨h1, h2⟩ => ⟨by rw [h1, hm], below_then hb h2 hb.size⟩
  have HP : Hid (∀ W, Below w.heap.size w W → Calls Try.prog 29 #[.pointer (some ⟨β.r, 0, none⟩)] W fun e w' => e = .returned (.int .i64 σ.n) ∧ W = w') := fun W hb => ram_pages (h.below hb).r
  have HR : Hid (∀ W, Calls Try.prog 28 #[.int .i64 σ.n, .int .u64 x] W fun e w' => e = .returned (.int .i64 1) ∧ Below W.heap.size W w') := fun W => by rw [← hk]; exact pma_region σ.n hlo.1 hlo.2 x (by omega) (by omega) W
  have HO : Hid (∀ W, Calls Try.prog 30 #[.int .i64 σ.n, .int .u64 x] W fun e w' => e = .returned (.int .u64 (pmaFind σ.n x).2.2.2) ∧ Below W.heap.size W w') := fun W => pma_offset σ.n hlo.1 hlo.2 x (by omega) (by omega) W
  have H := Lib.hid h
  have HF : Hid (∀ e w', ReadIs w β (σ.read1 x size) (SocOwn β lg sn SR) e w' ↔ (e = .returned (.tuple #[.int .u64 ((σ.read1 x size).1 : Nat), .int .i64 (σ.read1 x size).2.1]) ∧ SocTo w w' β (σ.read1 x size).2.2 (SocOwn β lg sn SR))) := fun _ _ => Iff.rfl
  have HX : Hid (x < 2 ^ 64) := hx
  have hsz : size = 1 ∨ size = 2 ∨ size = 4 ∨ size = 8 := sz_of hm
  have hq := rom_off hm hk
  obtain ⟨k, hk8, rfl⟩ : ∃ k : Nat, (k : Int) ≤ 8 ∧ size = (k : Int) := ⟨size.toNat, by omega, by omega⟩
  have HROM : Hid (∀ W, Calls Try.prog 39 #[.int .u64 (pmaFind σ.n x).2.2.2, .int .i64 (k : Int)] W (BytesOk W k (romL (x - 4096 : Int).toNat k))) := fun W => by
    rw [hq.1, show ((x : Int) - 4096) = (((x : Int) - 4096).toNat : Int) by omega]
    exact rom_read _ k (by omega) W
  unfold BytesOk at HROM
  have HV : Hid (∀ W a c, IsB W a k (romL (x - 4096 : Int).toNat k) → Calls Try.prog 40 #[.slice a k c] W fun e w' => e = .returned (.int .u64 (romV x k : Nat)) ∧ W = w') := fun W a c hl => bits_word a k c _ W hl (by omega)
  clear hq hsz
  clear h hx hm hk hlo
  go_enter Try.func12, Try.ntmps12
  go_wp2_with fail
  refine (HM.out _ (Below.refl _ _)).mono ?_
  rintro e w1 ⟨rfl, hb⟩
  have HB1 := Lib.hid hb
  clear hb
  go_wp2_with fail
  refine wp_region_held_drew (S := fun wq => wq.heap[β.s]? = some (.cells (socCells β σ lg) 75 (0, 0))) (by kernel_rfl) (H.out.below HB1.out).at_ (fun hH => ?_)
  refine wpAnyH_take (i := 0) (oi := ⟨some 24, _, _, _, _, _⟩) (v := ?_) rfl (by kernel_rfl) (by kernel_rfl) (by kernel_rfl) (fun _ _ _ h => h) (Or.inl ⟨by kernel_rfl, ?_⟩) hH ?_
  rotate_left 1
  · intro wq hq; have r0 : wq.cell? ⟨β.s, 0, none⟩ = some (.pointer (some ⟨β.c, 0, none⟩)) := blk_cell hq 0; have r1 : wq.cell? ⟨β.s, 1, none⟩ = some (.pointer (some ⟨β.p, 0, none⟩)) := blk_cell hq 1; have r2 : wq.cell? ⟨β.s, 2, none⟩ = some (.pointer (some ⟨β.u, 0, none⟩)) := blk_cell hq 2; have r3 : wq.cell? ⟨β.s, 3, none⟩ = some (.pointer (some ⟨β.r, 0, none⟩)) := blk_cell hq 3; clear hq; first | (go_simp; done) | (go_simp; with_reducible rfl)
  simp only [Act.put, List.setIfInBounds_toArray, List.set_cons_zero, List.set_cons_succ]
  refine wpAnyH_take (i := 1) (oi := ⟨some 25, _, _, _, _, _⟩) (v := ?_) rfl (by kernel_rfl) (by kernel_rfl) (by kernel_rfl) (fun _ _ _ h => h) (Or.inl ⟨by kernel_rfl, ?_⟩) hH ?_
  rotate_left 1
  · intro wq hq; have r0 : wq.cell? ⟨β.s, 0, none⟩ = some (.pointer (some ⟨β.c, 0, none⟩)) := blk_cell hq 0; have r1 : wq.cell? ⟨β.s, 1, none⟩ = some (.pointer (some ⟨β.p, 0, none⟩)) := blk_cell hq 1; have r2 : wq.cell? ⟨β.s, 2, none⟩ = some (.pointer (some ⟨β.u, 0, none⟩)) := blk_cell hq 2; have r3 : wq.cell? ⟨β.s, 3, none⟩ = some (.pointer (some ⟨β.r, 0, none⟩)) := blk_cell hq 3; clear hq; first | (go_simp; done) | (go_simp; with_reducible rfl)
  simp only [Act.put, List.setIfInBounds_toArray, List.set_cons_zero, List.set_cons_succ]
  refine wpAnyH_take (i := 2) (oi := ⟨some 26, _, _, _, _, _⟩) (v := ?_) rfl (by kernel_rfl) (by kernel_rfl) (by kernel_rfl) (fun _ _ _ h => h) (Or.inl ⟨by kernel_rfl, ?_⟩) hH ?_
  rotate_left 1
  · intro wq hq; have r0 : wq.cell? ⟨β.s, 0, none⟩ = some (.pointer (some ⟨β.c, 0, none⟩)) := blk_cell hq 0; have r1 : wq.cell? ⟨β.s, 1, none⟩ = some (.pointer (some ⟨β.p, 0, none⟩)) := blk_cell hq 1; have r2 : wq.cell? ⟨β.s, 2, none⟩ = some (.pointer (some ⟨β.u, 0, none⟩)) := blk_cell hq 2; have r3 : wq.cell? ⟨β.s, 3, none⟩ = some (.pointer (some ⟨β.r, 0, none⟩)) := blk_cell hq 3; clear hq; first | (go_simp; done) | (go_simp; with_reducible rfl)
  simp only [Act.put, List.setIfInBounds_toArray, List.set_cons_zero, List.set_cons_succ]
  refine wpAnyH_take (i := 3) (oi := ⟨some 27, _, _, _, _, _⟩) (v := ?_) rfl (by kernel_rfl) (by kernel_rfl) (by kernel_rfl) (fun _ _ _ h => h) (Or.inl ⟨by kernel_rfl, ?_⟩) hH ?_
  rotate_left 1
  · intro wq hq; have r0 : wq.cell? ⟨β.s, 0, none⟩ = some (.pointer (some ⟨β.c, 0, none⟩)) := blk_cell hq 0; have r1 : wq.cell? ⟨β.s, 1, none⟩ = some (.pointer (some ⟨β.p, 0, none⟩)) := blk_cell hq 1; have r2 : wq.cell? ⟨β.s, 2, none⟩ = some (.pointer (some ⟨β.u, 0, none⟩)) := blk_cell hq 2; have r3 : wq.cell? ⟨β.s, 3, none⟩ = some (.pointer (some ⟨β.r, 0, none⟩)) := blk_cell hq 3; clear hq; first | (go_simp; done) | (go_simp; with_reducible rfl)
  simp only [Act.put, List.setIfInBounds_toArray, List.set_cons_zero, List.set_cons_succ]
  refine wpAnyH_take (i := 5) (oi := ⟨some 29, _, _, _, _, _⟩) (v := ?_) rfl (by kernel_rfl) (by kernel_rfl) (by kernel_rfl) (fun _ _ _ h => h) (Or.inl ⟨by kernel_rfl, ?_⟩) hH ?_
  rotate_left 1
  · intro wq hq; have r0 : wq.cell? ⟨β.s, 0, none⟩ = some (.pointer (some ⟨β.c, 0, none⟩)) := blk_cell hq 0; have r1 : wq.cell? ⟨β.s, 1, none⟩ = some (.pointer (some ⟨β.p, 0, none⟩)) := blk_cell hq 1; have r2 : wq.cell? ⟨β.s, 2, none⟩ = some (.pointer (some ⟨β.u, 0, none⟩)) := blk_cell hq 2; have r3 : wq.cell? ⟨β.s, 3, none⟩ = some (.pointer (some ⟨β.r, 0, none⟩)) := blk_cell hq 3; clear hq; first | (go_simp; done) | (go_simp; with_reducible rfl)
  simp only [Act.put, List.setIfInBounds_toArray, List.set_cons_zero, List.set_cons_succ]
  refine wpAnyH_take (i := 7) (oi := ⟨some 31, _, _, _, _, _⟩) (v := ?_) rfl (by kernel_rfl) (by kernel_rfl) (by kernel_rfl) (fun _ _ _ h => h) (Or.inl ⟨by kernel_rfl, ?_⟩) hH ?_
  rotate_left 1
  · intro wq hq; have r0 : wq.cell? ⟨β.s, 0, none⟩ = some (.pointer (some ⟨β.c, 0, none⟩)) := blk_cell hq 0; have r1 : wq.cell? ⟨β.s, 1, none⟩ = some (.pointer (some ⟨β.p, 0, none⟩)) := blk_cell hq 1; have r2 : wq.cell? ⟨β.s, 2, none⟩ = some (.pointer (some ⟨β.u, 0, none⟩)) := blk_cell hq 2; have r3 : wq.cell? ⟨β.s, 3, none⟩ = some (.pointer (some ⟨β.r, 0, none⟩)) := blk_cell hq 3; clear hq; first | (go_simp; done) | (go_simp; with_reducible rfl)
  simp only [Act.put, List.setIfInBounds_toArray, List.set_cons_zero, List.set_cons_succ]
  refine wpAnyH_take (i := 8) (oi := ⟨some 32, _, _, _, _, _⟩) (v := ?_) rfl (by kernel_rfl) (by kernel_rfl) (by kernel_rfl) (fun _ _ _ h => h) (Or.inl ⟨by kernel_rfl, ?_⟩) hH ?_
  rotate_left 1
  · intro wq hq; have r0 : wq.cell? ⟨β.s, 0, none⟩ = some (.pointer (some ⟨β.c, 0, none⟩)) := blk_cell hq 0; have r1 : wq.cell? ⟨β.s, 1, none⟩ = some (.pointer (some ⟨β.p, 0, none⟩)) := blk_cell hq 1; have r2 : wq.cell? ⟨β.s, 2, none⟩ = some (.pointer (some ⟨β.u, 0, none⟩)) := blk_cell hq 2; have r3 : wq.cell? ⟨β.s, 3, none⟩ = some (.pointer (some ⟨β.r, 0, none⟩)) := blk_cell hq 3; clear hq; first | (go_simp; done) | (go_simp; with_reducible rfl)
  simp only [Act.put, List.setIfInBounds_toArray, List.set_cons_zero, List.set_cons_succ]
  refine wpAnyH_take (i := 9) (oi := ⟨some 33, _, _, _, _, _⟩) (v := ?_) rfl (by kernel_rfl) (by kernel_rfl) (by kernel_rfl) (fun _ _ _ h => h) (Or.inl ⟨by kernel_rfl, ?_⟩) hH ?_
  rotate_left 1
  · intro wq hq; have r0 : wq.cell? ⟨β.s, 0, none⟩ = some (.pointer (some ⟨β.c, 0, none⟩)) := blk_cell hq 0; have r1 : wq.cell? ⟨β.s, 1, none⟩ = some (.pointer (some ⟨β.p, 0, none⟩)) := blk_cell hq 1; have r2 : wq.cell? ⟨β.s, 2, none⟩ = some (.pointer (some ⟨β.u, 0, none⟩)) := blk_cell hq 2; have r3 : wq.cell? ⟨β.s, 3, none⟩ = some (.pointer (some ⟨β.r, 0, none⟩)) := blk_cell hq 3; clear hq; first | (go_simp; done) | (go_simp; with_reducible rfl)
  simp only [Act.put, List.setIfInBounds_toArray, List.set_cons_zero, List.set_cons_succ]
  refine wpAnyH_take (i := 10) (oi := ⟨some 34, _, _, _, _, _⟩) (v := ?_) rfl (by kernel_rfl) (by kernel_rfl) (by kernel_rfl) (fun _ _ _ h => h) (Or.inl ⟨by kernel_rfl, ?_⟩) hH ?_
  rotate_left 1
  · intro wq hq; have r0 : wq.cell? ⟨β.s, 0, none⟩ = some (.pointer (some ⟨β.c, 0, none⟩)) := blk_cell hq 0; have r1 : wq.cell? ⟨β.s, 1, none⟩ = some (.pointer (some ⟨β.p, 0, none⟩)) := blk_cell hq 1; have r2 : wq.cell? ⟨β.s, 2, none⟩ = some (.pointer (some ⟨β.u, 0, none⟩)) := blk_cell hq 2; have r3 : wq.cell? ⟨β.s, 3, none⟩ = some (.pointer (some ⟨β.r, 0, none⟩)) := blk_cell hq 3; clear hq; first | (go_simp; done) | (go_simp; with_reducible rfl)
  simp only [Act.put, List.setIfInBounds_toArray, List.set_cons_zero, List.set_cons_succ]
  refine wpAnyH_take (i := 12) (oi := ⟨some 36, _, _, _, _, _⟩) (v := ?_) rfl (by kernel_rfl) (by kernel_rfl) (by kernel_rfl) (fun _ _ _ h => h) (Or.inl ⟨by kernel_rfl, ?_⟩) hH ?_
  rotate_left 1
  · intro wq hq; have r0 : wq.cell? ⟨β.s, 0, none⟩ = some (.pointer (some ⟨β.c, 0, none⟩)) := blk_cell hq 0; have r1 : wq.cell? ⟨β.s, 1, none⟩ = some (.pointer (some ⟨β.p, 0, none⟩)) := blk_cell hq 1; have r2 : wq.cell? ⟨β.s, 2, none⟩ = some (.pointer (some ⟨β.u, 0, none⟩)) := blk_cell hq 2; have r3 : wq.cell? ⟨β.s, 3, none⟩ = some (.pointer (some ⟨β.r, 0, none⟩)) := blk_cell hq 3; clear hq; first | (go_simp; done) | (go_simp; with_reducible rfl)
  simp only [Act.put, List.setIfInBounds_toArray, List.set_cons_zero, List.set_cons_succ]
  refine wpAnyH_ready (rs := [4]) (by kernel_rfl) (by simp) (AllReadyH.cons (o := ⟨some 28, _, _, _, _, _⟩) rfl (fun K hK => ?_) AllReadyH.nil)
  go_simp
  refine (HP.out _ HB1.out.drew).mono ?_
  rintro e w2 ⟨rfl, rfl⟩
  go_wp2_with fail
  refine hK.out _ _ hH (fun hH => ?_)
  clear hK K
  try simp only [Act.put, List.setIfInBounds_toArray, List.set_cons_zero, List.set_cons_succ]
  refine wpAnyH_ready (rs := [6]) (by kernel_rfl) (by simp) (AllReadyH.cons (o := ⟨some 30, _, _, _, _, _⟩) rfl (fun K hK => ?_) AllReadyH.nil)
  go_simp
  refine (HR.out _).mono ?_
  rintro e w2 ⟨rfl, hb⟩
  have HB2 : Hid (Below w.heap.size w w2) := below_then HB1.out.drew hb HB1.out.size
  clear hb
  go_wp2_with fail
  refine hK.out _ _ (H.out.below HB2.out).at_ (fun hH => ?_)
  clear hK K
  try simp only [Act.put, List.setIfInBounds_toArray, List.set_cons_zero, List.set_cons_succ]
  refine wpAnyH_ready (rs := [11]) (by kernel_rfl) (by simp) (AllReadyH.cons (o := ⟨some 35, _, _, _, _, _⟩) rfl (fun K hK => ?_) AllReadyH.nil)
  go_simp
  refine (HP.out _ HB2.out).mono ?_
  rintro e w3 ⟨rfl, rfl⟩
  go_wp2_with fail
  refine hK.out _ _ hH (fun hH => ?_)
  clear hK K
  try simp only [Act.put, List.setIfInBounds_toArray, List.set_cons_zero, List.set_cons_succ]
  refine wpAnyH_ready (rs := [13]) (by kernel_rfl) (by simp) (AllReadyH.cons (o := ⟨some 37, _, _, _, _, _⟩) rfl (fun K hK => ?_) AllReadyH.nil)
  go_simp
  refine (HO.out _).mono ?_
  rintro e w3 ⟨rfl, hb⟩
  have HB3 : Hid (Below w.heap.size w w3) := below_then HB2.out hb HB2.out.size
  clear hb
  go_wp2_with fail
  refine hK.out _ _ (H.out.below HB3.out).at_ (fun hH => ?_)
  clear hK K
  try simp only [Act.put, List.setIfInBounds_toArray, List.set_cons_zero, List.set_cons_succ]
  refine wpAnyH_take (i := 14) (oi := ⟨some 9, _, _, _, _, _⟩) (v := ?_) rfl (by kernel_rfl) (by kernel_rfl) (by kernel_rfl) (fun _ _ _ h => h) (Or.inl ⟨by kernel_rfl, ?_⟩) hH ?_
  rotate_left 1
  · intro wq hq; have r0 : wq.cell? ⟨β.s, 0, none⟩ = some (.pointer (some ⟨β.c, 0, none⟩)) := blk_cell hq 0; have r1 : wq.cell? ⟨β.s, 1, none⟩ = some (.pointer (some ⟨β.p, 0, none⟩)) := blk_cell hq 1; have r2 : wq.cell? ⟨β.s, 2, none⟩ = some (.pointer (some ⟨β.u, 0, none⟩)) := blk_cell hq 2; have r3 : wq.cell? ⟨β.s, 3, none⟩ = some (.pointer (some ⟨β.r, 0, none⟩)) := blk_cell hq 3; clear hq; first | (go_simp; done) | (go_simp; with_reducible rfl)
  simp only [Act.put, List.setIfInBounds_toArray, List.set_cons_zero, List.set_cons_succ]
  refine wpAnyH_take (i := 15) (oi := ⟨some 10, _, _, _, _, _⟩) (v := ?_) rfl (by kernel_rfl) (by kernel_rfl) (by kernel_rfl) (fun _ _ _ h => h) (Or.inl ⟨by kernel_rfl, ?_⟩) hH ?_
  rotate_left 1
  · intro wq hq; have r0 : wq.cell? ⟨β.s, 0, none⟩ = some (.pointer (some ⟨β.c, 0, none⟩)) := blk_cell hq 0; have r1 : wq.cell? ⟨β.s, 1, none⟩ = some (.pointer (some ⟨β.p, 0, none⟩)) := blk_cell hq 1; have r2 : wq.cell? ⟨β.s, 2, none⟩ = some (.pointer (some ⟨β.u, 0, none⟩)) := blk_cell hq 2; have r3 : wq.cell? ⟨β.s, 3, none⟩ = some (.pointer (some ⟨β.r, 0, none⟩)) := blk_cell hq 3; clear hq; first | (go_simp; done) | (go_simp; with_reducible rfl)
  simp only [Act.put, List.setIfInBounds_toArray, List.set_cons_zero, List.set_cons_succ]
  refine wpAnyH_done (by kernel_rfl) ?_ _
  clear hH
  have H3 := Lib.hid (H.out.below HB3.out)
  have r0 : w3.cell? ⟨β.s, 0, none⟩ = some (.pointer (some ⟨β.c, 0, none⟩)) := blk_cell H3.out.at_ 0
  have r1 : w3.cell? ⟨β.s, 1, none⟩ = some (.pointer (some ⟨β.p, 0, none⟩)) := blk_cell H3.out.at_ 1
  have r2 : w3.cell? ⟨β.s, 2, none⟩ = some (.pointer (some ⟨β.u, 0, none⟩)) := blk_cell H3.out.at_ 2
  clear HB1 HB2 HM HP HR HO
  go_wp2_with fail
  refine (soc_at0 1 (by decide) (by decide) (by decide) _ _ _ _).mono ?_
  rintro e w4 ⟨rfl, hb⟩
  have HB4 : Hid (Below w.heap.size w w4) := below_then HB3.out hb HB3.out.size
  clear hb r0 r1 r2 H3 HB3
  have H4 := Lib.hid (H.out.below HB4.out)
  go_wp2_with fail
  refine (HROM.out _).mono ?_
  rintro e w5 ⟨a, c, rfl, hl, hb⟩
  have HB5 : Hid (Below w.heap.size w w5) := below_then HB4.out hb HB4.out.size
  have HL := Lib.hid hl
  clear hb hl
  go_wp2_with fail
  refine (HV.out _ a c HL.out).mono ?_
  rintro e w6 ⟨rfl, rfl⟩
  go_wp2
  go_ret2
  refine (HF.out _ _).2 ⟨rfl, ?_⟩
  exact SocTo.of_below ⟨_, _, _, H.out, rfl⟩ HB5.out
set_option maxHeartbeats 4000000 in
theorem soc_write5 {w : World} {β : SocB} {σ : SocS} {lg sn : Value} {SR : Nat → Prop} (h : SocIs w β σ lg sn SR) (x : Nat) (hx : x < 2 ^ 64) (size : Int) (v : Nat) (hv : v < 2 ^ 64) (hm : socErr σ.n x size 2 = 0) (hk : (pmaFind σ.n x).1 = 5) :
    Calls Try.prog 9 #[.pointer (some ⟨β.s, 0, none⟩), .int .u64 x, .int .i64 size, .int .u64 v] w (WroteIs w β (σ.write5 x size (Zx size v)) (SocOwn β lg sn SR)) := by
  have hlo := h.r.lo
  have HM : Hid (∀ W, Below w.heap.size w W → Calls Try.prog 25 #[.pointer (some ⟨β.s, 0, none⟩), .int .u64 x, .int .i64 size, .int .i64 2] W (fun e w' => e = .returned (.int .i64 0) ∧ Below w.heap.size w w')) := fun W hb => (soc_may (h.below hb) x (by omega) (by omega) size 2 (.inr rfl)).mono fun e w' ⟨h1, h2⟩ => ⟨by rw [h1, hm], below_then hb h2 hb.size⟩
  have hsz : size = 1 ∨ size = 2 ∨ size = 4 ∨ size = 8 := sz_of hm
  have HZ : Hid (∀ W, Calls Try.prog 26 #[.int .u64 v, .int .i64 (8 * size)] W fun e w' => e = .returned (.int .u64 (Zx size v : Nat)) ∧ W = w') := fun W => bits_zext v hv size hsz W
  have ez : IntKind.i64.wrap (8 * size) = 8 * size := by rw [IntKind.wrap_i64]; omega
  have HP : Hid (∀ W, Below w.heap.size w W → Calls Try.prog 29 #[.pointer (some ⟨β.r, 0, none⟩)] W fun e w' => e = .returned (.int .i64 σ.n) ∧ W = w') := fun W hb => ram_pages (h.below hb).r
  have HR : Hid (∀ W, Calls Try.prog 28 #[.int .i64 σ.n, .int .u64 x] W fun e w' => e = .returned (.int .i64 5) ∧ Below W.heap.size W w') := fun W => by rw [← hk]; exact pma_region σ.n hlo.1 hlo.2 x (by omega) (by omega) W
  have H := Lib.hid h
  have HF : Hid (∀ e w', WroteIs w β (σ.write5 x size (Zx size v)) (SocOwn β lg sn SR) e w' ↔ (e = .returned (.int .i64 (σ.write5 x size (Zx size v)).1) ∧ SocTo w w' β (σ.write5 x size (Zx size v)).2 (SocOwn β lg sn SR))) := fun _ _ => Iff.rfl
  have HX : Hid (x < 2 ^ 64) := hx
  clear h hx hv hm hk hlo hsz
  go_enter Try.func9, Try.ntmps9
  go_wp2_with fail
  refine (HM.out _ (Below.refl _ _)).mono ?_
  rintro e w1 ⟨rfl, hb⟩
  have HB1 := Lib.hid hb
  clear hb
  go_wp2_with fail
  refine (HZ.out _).mono ?_
  rintro e w1 ⟨rfl, rfl⟩
  go_wp2_with fail
  refine wp_region_held_drew (S := fun wq => wq.heap[β.s]? = some (.cells (socCells β σ lg) 75 (0, 0))) (by kernel_rfl) (H.out.below HB1.out).at_ (fun hH => ?_)
  refine wpAnyH_take (i := 0) (oi := ⟨some 25, _, _, _, _, _⟩) (v := ?_) rfl (by kernel_rfl) (by kernel_rfl) (by kernel_rfl) (fun _ _ _ h => h) (Or.inl ⟨by kernel_rfl, ?_⟩) hH ?_
  rotate_left 1
  · intro wq hq; have r0 : wq.cell? ⟨β.s, 0, none⟩ = some (.pointer (some ⟨β.c, 0, none⟩)) := blk_cell hq 0; have r1 : wq.cell? ⟨β.s, 1, none⟩ = some (.pointer (some ⟨β.p, 0, none⟩)) := blk_cell hq 1; have r2 : wq.cell? ⟨β.s, 2, none⟩ = some (.pointer (some ⟨β.u, 0, none⟩)) := blk_cell hq 2; have r3 : wq.cell? ⟨β.s, 3, none⟩ = some (.pointer (some ⟨β.r, 0, none⟩)) := blk_cell hq 3; clear hq; first | (go_simp; done) | (go_simp; with_reducible rfl)
  simp only [Act.put, List.setIfInBounds_toArray, List.set_cons_zero, List.set_cons_succ]
  refine wpAnyH_take (i := 1) (oi := ⟨some 26, _, _, _, _, _⟩) (v := ?_) rfl (by kernel_rfl) (by kernel_rfl) (by kernel_rfl) (fun _ _ _ h => h) (Or.inl ⟨by kernel_rfl, ?_⟩) hH ?_
  rotate_left 1
  · intro wq hq; have r0 : wq.cell? ⟨β.s, 0, none⟩ = some (.pointer (some ⟨β.c, 0, none⟩)) := blk_cell hq 0; have r1 : wq.cell? ⟨β.s, 1, none⟩ = some (.pointer (some ⟨β.p, 0, none⟩)) := blk_cell hq 1; have r2 : wq.cell? ⟨β.s, 2, none⟩ = some (.pointer (some ⟨β.u, 0, none⟩)) := blk_cell hq 2; have r3 : wq.cell? ⟨β.s, 3, none⟩ = some (.pointer (some ⟨β.r, 0, none⟩)) := blk_cell hq 3; clear hq; first | (go_simp; done) | (go_simp; with_reducible rfl)
  simp only [Act.put, List.setIfInBounds_toArray, List.set_cons_zero, List.set_cons_succ]
  refine wpAnyH_take (i := 2) (oi := ⟨some 27, _, _, _, _, _⟩) (v := ?_) rfl (by kernel_rfl) (by kernel_rfl) (by kernel_rfl) (fun _ _ _ h => h) (Or.inl ⟨by kernel_rfl, ?_⟩) hH ?_
  rotate_left 1
  · intro wq hq; have r0 : wq.cell? ⟨β.s, 0, none⟩ = some (.pointer (some ⟨β.c, 0, none⟩)) := blk_cell hq 0; have r1 : wq.cell? ⟨β.s, 1, none⟩ = some (.pointer (some ⟨β.p, 0, none⟩)) := blk_cell hq 1; have r2 : wq.cell? ⟨β.s, 2, none⟩ = some (.pointer (some ⟨β.u, 0, none⟩)) := blk_cell hq 2; have r3 : wq.cell? ⟨β.s, 3, none⟩ = some (.pointer (some ⟨β.r, 0, none⟩)) := blk_cell hq 3; clear hq; first | (go_simp; done) | (go_simp; with_reducible rfl)
  simp only [Act.put, List.setIfInBounds_toArray, List.set_cons_zero, List.set_cons_succ]
  refine wpAnyH_take (i := 3) (oi := ⟨some 28, _, _, _, _, _⟩) (v := ?_) rfl (by kernel_rfl) (by kernel_rfl) (by kernel_rfl) (fun _ _ _ h => h) (Or.inl ⟨by kernel_rfl, ?_⟩) hH ?_
  rotate_left 1
  · intro wq hq; have r0 : wq.cell? ⟨β.s, 0, none⟩ = some (.pointer (some ⟨β.c, 0, none⟩)) := blk_cell hq 0; have r1 : wq.cell? ⟨β.s, 1, none⟩ = some (.pointer (some ⟨β.p, 0, none⟩)) := blk_cell hq 1; have r2 : wq.cell? ⟨β.s, 2, none⟩ = some (.pointer (some ⟨β.u, 0, none⟩)) := blk_cell hq 2; have r3 : wq.cell? ⟨β.s, 3, none⟩ = some (.pointer (some ⟨β.r, 0, none⟩)) := blk_cell hq 3; clear hq; first | (go_simp; done) | (go_simp; with_reducible rfl)
  simp only [Act.put, List.setIfInBounds_toArray, List.set_cons_zero, List.set_cons_succ]
  refine wpAnyH_take (i := 4) (oi := ⟨some 29, _, _, _, _, _⟩) (v := ?_) rfl (by kernel_rfl) (by kernel_rfl) (by kernel_rfl) (fun _ _ _ h => h) (Or.inl ⟨by kernel_rfl, ?_⟩) hH ?_
  rotate_left 1
  · intro wq hq; have r0 : wq.cell? ⟨β.s, 0, none⟩ = some (.pointer (some ⟨β.c, 0, none⟩)) := blk_cell hq 0; have r1 : wq.cell? ⟨β.s, 1, none⟩ = some (.pointer (some ⟨β.p, 0, none⟩)) := blk_cell hq 1; have r2 : wq.cell? ⟨β.s, 2, none⟩ = some (.pointer (some ⟨β.u, 0, none⟩)) := blk_cell hq 2; have r3 : wq.cell? ⟨β.s, 3, none⟩ = some (.pointer (some ⟨β.r, 0, none⟩)) := blk_cell hq 3; clear hq; first | (go_simp; done) | (go_simp; with_reducible rfl)
  simp only [Act.put, List.setIfInBounds_toArray, List.set_cons_zero, List.set_cons_succ]
  refine wpAnyH_take (i := 5) (oi := ⟨some 30, _, _, _, _, _⟩) (v := ?_) rfl (by kernel_rfl) (by kernel_rfl) (by kernel_rfl) (fun _ _ _ h => h) (Or.inl ⟨by kernel_rfl, ?_⟩) hH ?_
  rotate_left 1
  · intro wq hq; have r0 : wq.cell? ⟨β.s, 0, none⟩ = some (.pointer (some ⟨β.c, 0, none⟩)) := blk_cell hq 0; have r1 : wq.cell? ⟨β.s, 1, none⟩ = some (.pointer (some ⟨β.p, 0, none⟩)) := blk_cell hq 1; have r2 : wq.cell? ⟨β.s, 2, none⟩ = some (.pointer (some ⟨β.u, 0, none⟩)) := blk_cell hq 2; have r3 : wq.cell? ⟨β.s, 3, none⟩ = some (.pointer (some ⟨β.r, 0, none⟩)) := blk_cell hq 3; clear hq; first | (go_simp; done) | (go_simp; with_reducible rfl)
  simp only [Act.put, List.setIfInBounds_toArray, List.set_cons_zero, List.set_cons_succ]
  refine wpAnyH_take (i := 6) (oi := ⟨some 31, _, _, _, _, _⟩) (v := ?_) rfl (by kernel_rfl) (by kernel_rfl) (by kernel_rfl) (fun _ _ _ h => h) (Or.inl ⟨by kernel_rfl, ?_⟩) hH ?_
  rotate_left 1
  · intro wq hq; have r0 : wq.cell? ⟨β.s, 0, none⟩ = some (.pointer (some ⟨β.c, 0, none⟩)) := blk_cell hq 0; have r1 : wq.cell? ⟨β.s, 1, none⟩ = some (.pointer (some ⟨β.p, 0, none⟩)) := blk_cell hq 1; have r2 : wq.cell? ⟨β.s, 2, none⟩ = some (.pointer (some ⟨β.u, 0, none⟩)) := blk_cell hq 2; have r3 : wq.cell? ⟨β.s, 3, none⟩ = some (.pointer (some ⟨β.r, 0, none⟩)) := blk_cell hq 3; clear hq; first | (go_simp; done) | (go_simp; with_reducible rfl)
  simp only [Act.put, List.setIfInBounds_toArray, List.set_cons_zero, List.set_cons_succ]
  refine wpAnyH_take (i := 7) (oi := ⟨some 32, _, _, _, _, _⟩) (v := ?_) rfl (by kernel_rfl) (by kernel_rfl) (by kernel_rfl) (fun _ _ _ h => h) (Or.inl ⟨by kernel_rfl, ?_⟩) hH ?_
  rotate_left 1
  · intro wq hq; have r0 : wq.cell? ⟨β.s, 0, none⟩ = some (.pointer (some ⟨β.c, 0, none⟩)) := blk_cell hq 0; have r1 : wq.cell? ⟨β.s, 1, none⟩ = some (.pointer (some ⟨β.p, 0, none⟩)) := blk_cell hq 1; have r2 : wq.cell? ⟨β.s, 2, none⟩ = some (.pointer (some ⟨β.u, 0, none⟩)) := blk_cell hq 2; have r3 : wq.cell? ⟨β.s, 3, none⟩ = some (.pointer (some ⟨β.r, 0, none⟩)) := blk_cell hq 3; clear hq; first | (go_simp; done) | (go_simp; with_reducible rfl)
  simp only [Act.put, List.setIfInBounds_toArray, List.set_cons_zero, List.set_cons_succ]
  refine wpAnyH_take (i := 9) (oi := ⟨some 34, _, _, _, _, _⟩) (v := ?_) rfl (by kernel_rfl) (by kernel_rfl) (by kernel_rfl) (fun _ _ _ h => h) (Or.inl ⟨by kernel_rfl, ?_⟩) hH ?_
  rotate_left 1
  · intro wq hq; have r0 : wq.cell? ⟨β.s, 0, none⟩ = some (.pointer (some ⟨β.c, 0, none⟩)) := blk_cell hq 0; have r1 : wq.cell? ⟨β.s, 1, none⟩ = some (.pointer (some ⟨β.p, 0, none⟩)) := blk_cell hq 1; have r2 : wq.cell? ⟨β.s, 2, none⟩ = some (.pointer (some ⟨β.u, 0, none⟩)) := blk_cell hq 2; have r3 : wq.cell? ⟨β.s, 3, none⟩ = some (.pointer (some ⟨β.r, 0, none⟩)) := blk_cell hq 3; clear hq; first | (go_simp; done) | (go_simp; with_reducible rfl)
  simp only [Act.put, List.setIfInBounds_toArray, List.set_cons_zero, List.set_cons_succ]
  refine wpAnyH_ready (rs := [8]) (by kernel_rfl) (by simp) (AllReadyH.cons (o := ⟨some 33, _, _, _, _, _⟩) rfl (fun K hK => ?_) AllReadyH.nil)
  go_simp
  refine (HP.out _ HB1.out.drew).mono ?_
  rintro e w2 ⟨rfl, rfl⟩
  go_wp2_with fail
  refine hK.out _ _ hH (fun hH => ?_)
  clear hK K
  try simp only [Act.put, List.setIfInBounds_toArray, List.set_cons_zero, List.set_cons_succ]
  refine wpAnyH_ready (rs := [10]) (by kernel_rfl) (by simp) (AllReadyH.cons (o := ⟨some 35, _, _, _, _, _⟩) rfl (fun K hK => ?_) AllReadyH.nil)
  go_simp
  refine (HR.out _).mono ?_
  rintro e w2 ⟨rfl, hb⟩
  have HB2 : Hid (Below w.heap.size w w2) := below_then HB1.out.drew hb HB1.out.size
  clear hb
  go_wp2_with fail
  refine hK.out _ _ (H.out.below HB2.out).at_ (fun hH => ?_)
  clear hK K
  try simp only [Act.put, List.setIfInBounds_toArray, List.set_cons_zero, List.set_cons_succ]
  refine wpAnyH_ready (rs := [11]) (by kernel_rfl) (by simp) (AllReadyH.cons (o := ⟨some 36, _, _, _, _, _⟩) rfl (fun K hK => ?_) AllReadyH.nil)
  go_simp
  refine (soc_at0 5 (by decide) (by decide) (by decide) _ _ _ _).mono ?_
  rintro e w3 ⟨rfl, hb⟩
  have HB3 : Hid (Below w.heap.size w w3) := below_then HB2.out hb HB2.out.size
  clear hb HB1 HB2
  go_wp2_with fail
  refine hK.out _ _ (H.out.below HB3.out).at_ (fun hH => ?_)
  clear hK K
  try simp only [Act.put, List.setIfInBounds_toArray, List.set_cons_zero, List.set_cons_succ]
  refine wpAnyH_take (i := 12) (oi := ⟨some 24, _, _, _, _, _⟩) (v := ?_) rfl (by kernel_rfl) (by kernel_rfl) (by kernel_rfl) (fun _ _ _ h => h) (Or.inl ⟨by kernel_rfl, ?_⟩) hH ?_
  rotate_left 1
  · intro wq hq; have r0 : wq.cell? ⟨β.s, 0, none⟩ = some (.pointer (some ⟨β.c, 0, none⟩)) := blk_cell hq 0; have r1 : wq.cell? ⟨β.s, 1, none⟩ = some (.pointer (some ⟨β.p, 0, none⟩)) := blk_cell hq 1; have r2 : wq.cell? ⟨β.s, 2, none⟩ = some (.pointer (some ⟨β.u, 0, none⟩)) := blk_cell hq 2; have r3 : wq.cell? ⟨β.s, 3, none⟩ = some (.pointer (some ⟨β.r, 0, none⟩)) := blk_cell hq 3; clear hq; first | (go_simp; done) | (go_simp; with_reducible rfl)
  simp only [Act.put, List.setIfInBounds_toArray, List.set_cons_zero, List.set_cons_succ]
  refine wpAnyH_take (i := 13) (oi := ⟨some 37, _, _, _, _, _⟩) (v := ?_) rfl (by kernel_rfl) (by kernel_rfl) (by kernel_rfl) (fun _ _ _ h => h) (Or.inl ⟨by kernel_rfl, ?_⟩) hH ?_
  rotate_left 1
  · intro wq hq; have r0 : wq.cell? ⟨β.s, 0, none⟩ = some (.pointer (some ⟨β.c, 0, none⟩)) := blk_cell hq 0; have r1 : wq.cell? ⟨β.s, 1, none⟩ = some (.pointer (some ⟨β.p, 0, none⟩)) := blk_cell hq 1; have r2 : wq.cell? ⟨β.s, 2, none⟩ = some (.pointer (some ⟨β.u, 0, none⟩)) := blk_cell hq 2; have r3 : wq.cell? ⟨β.s, 3, none⟩ = some (.pointer (some ⟨β.r, 0, none⟩)) := blk_cell hq 3; clear hq; first | (go_simp; done) | (go_simp; with_reducible rfl)
  simp only [Act.put, List.setIfInBounds_toArray, List.set_cons_zero, List.set_cons_succ]
  refine wpAnyH_take (i := 14) (oi := ⟨some 38, _, _, _, _, _⟩) (v := ?_) rfl (by kernel_rfl) (by kernel_rfl) (by kernel_rfl) (fun _ _ _ h => h) (Or.inl ⟨by kernel_rfl, ?_⟩) hH ?_
  rotate_left 1
  · intro wq hq; have r0 : wq.cell? ⟨β.s, 0, none⟩ = some (.pointer (some ⟨β.c, 0, none⟩)) := blk_cell hq 0; have r1 : wq.cell? ⟨β.s, 1, none⟩ = some (.pointer (some ⟨β.p, 0, none⟩)) := blk_cell hq 1; have r2 : wq.cell? ⟨β.s, 2, none⟩ = some (.pointer (some ⟨β.u, 0, none⟩)) := blk_cell hq 2; have r3 : wq.cell? ⟨β.s, 3, none⟩ = some (.pointer (some ⟨β.r, 0, none⟩)) := blk_cell hq 3; clear hq; first | (go_simp; done) | (go_simp; with_reducible rfl)
  simp only [Act.put, List.setIfInBounds_toArray, List.set_cons_zero, List.set_cons_succ]
  refine wpAnyH_take (i := 15) (oi := ⟨some 10, _, _, _, _, _⟩) (v := ?_) rfl (by kernel_rfl) (by kernel_rfl) (by kernel_rfl) (fun _ _ _ h => h) (Or.inl ⟨by kernel_rfl, ?_⟩) hH ?_
  rotate_left 1
  · intro wq hq; have r0 : wq.cell? ⟨β.s, 0, none⟩ = some (.pointer (some ⟨β.c, 0, none⟩)) := blk_cell hq 0; have r1 : wq.cell? ⟨β.s, 1, none⟩ = some (.pointer (some ⟨β.p, 0, none⟩)) := blk_cell hq 1; have r2 : wq.cell? ⟨β.s, 2, none⟩ = some (.pointer (some ⟨β.u, 0, none⟩)) := blk_cell hq 2; have r3 : wq.cell? ⟨β.s, 3, none⟩ = some (.pointer (some ⟨β.r, 0, none⟩)) := blk_cell hq 3; clear hq; first | (go_simp; done) | (go_simp; with_reducible rfl)
  simp only [Act.put, List.setIfInBounds_toArray, List.set_cons_zero, List.set_cons_succ]
  refine wpAnyH_take (i := 16) (oi := ⟨some 11, _, _, _, _, _⟩) (v := ?_) rfl (by kernel_rfl) (by kernel_rfl) (by kernel_rfl) (fun _ _ _ h => h) (Or.inl ⟨by kernel_rfl, ?_⟩) hH ?_
  rotate_left 1
  · intro wq hq; have r0 : wq.cell? ⟨β.s, 0, none⟩ = some (.pointer (some ⟨β.c, 0, none⟩)) := blk_cell hq 0; have r1 : wq.cell? ⟨β.s, 1, none⟩ = some (.pointer (some ⟨β.p, 0, none⟩)) := blk_cell hq 1; have r2 : wq.cell? ⟨β.s, 2, none⟩ = some (.pointer (some ⟨β.u, 0, none⟩)) := blk_cell hq 2; have r3 : wq.cell? ⟨β.s, 3, none⟩ = some (.pointer (some ⟨β.r, 0, none⟩)) := blk_cell hq 3; clear hq; first | (go_simp; done) | (go_simp; with_reducible rfl)
  simp only [Act.put, List.setIfInBounds_toArray, List.set_cons_zero, List.set_cons_succ]
  refine wpAnyH_done (by kernel_rfl) ?_ _
  clear hH
  have H4 := Lib.hid (H.out.below HB3.out)
  have r3 : w3.cell? ⟨β.s, 3, none⟩ = some (.pointer (some ⟨β.r, 0, none⟩)) := blk_cell H4.out.at_ 3
  clear HM HZ HP HR
  go_wp2_with fail
  refine (ram_put_any H4.out.r x (by omega) (by have := HX.out; omega) size (Zx size v)).mono ?_
  rintro e w5 ⟨rfl, ht⟩
  have HT := Lib.hid (SocTo.from_below HB3.out (H4.out.ram_to ht))
  clear ht r3
  go_wp2
  go_ret
  exact (HF.out _ _).2 ⟨rfl, HT.out⟩
end Go.Proofs.Ytefcdbpmpnmkjaa
end
