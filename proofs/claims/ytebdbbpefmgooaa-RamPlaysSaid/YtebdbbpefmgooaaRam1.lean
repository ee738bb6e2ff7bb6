/- Contracts of Ram.get, set, all, New. No condition. -/
import Derived.Test.YtebdbbpefmgooaaRamD
import Derived.StillTailTactics
import Derived.BigRegion
import Derived.Deep.RegionWith
import Derived.Deep.RegionHeld3
import Derived.Deep.QuietTactic
import Derived.BigQuiet
import Derived.Deep.LoopGhost
import Derived.Deep.DeepCutAuto
import Derived.Deep.DeepFit
import Derived.Deep.DeepMust
import Derived.Handy
set_option linter.unusedVariables false
set_option linter.unusedSimpArgs false
namespace Go.Proofs.Ytebdbbpefmgooaa
open Go.RowKit
set_option maxRecDepth 100000 in
set_option maxHeartbeats 1000000 in
theorem ram_get {w : World} {b m n : Nat} {pg : Nat → Option Nat} {ct : Nat → Nat} (h : RamIs w b m n pg ct) (x : Int) (x0 : 0 ≤ x) (x1 : x < 1048576) :
    Calls Try.prog 61 #[.pointer (some ⟨b, 0, none⟩), .int .i64 x] w fun e w' => e = .returned (.int .u8 (ct x.toNat)) ∧ w = w' := by
  obtain ⟨k, hk⟩ := Int.eq_ofNat_of_zero_le (show 0 ≤ x / 4096 by omega)
  obtain ⟨j, hj⟩ := Int.eq_ofNat_of_zero_le (show 0 ≤ x % 4096 by omega)
  have hk2 : (k : Int) < 256 := by omega
  have hj2 : (j : Int) < 4096 := by omega
  have hx : Hid (x.toNat = 4096 * k + j) := by show _ = _; omega
  obtain ⟨D, hD⟩ := h.map
  have hl := hD.lookup (k := k) (by omega)
  have c0 : w.cell? ⟨b, 1, none⟩ = some (.map (some m)) := blk_cell h.at_ 1
  have HK := Lib.hid hk; have HJ := Lib.hid hj
  rcases hp : pg k with _ | g
  · have hz : Hid (ct x.toNat = 0) := by show _ = _; rw [hx.out]; exact h.zero k hp j (by omega)
    rw [hp] at hl
    simp only [pgV] at hl
    clear h hD hp
    go_enter Try.func61, Try.ntmps61
    go_wp2
    go_ret
    exact ⟨ret_int (by rw [hz.out]; rfl), rfl⟩
  · have hc : w.cell? ⟨g, j, none⟩ = some (.int .u8 (ct (4096 * k + j))) := (blk_cell (h.page k g hp) j).trans (pageArr_get _ _ (by omega))
    rw [hp] at hl
    simp only [pgV] at hl
    clear h hD hp
    go_enter Try.func61, Try.ntmps61
    go_wp2
    go_ret
    exact ⟨ret_int (by rw [hx.out]), rfl⟩
/-- the memory with other bytes: in its own blocks and in new ones -/
def RamTo (w w' : World) (b n : Nat) (ct : Nat → Nat) (S : Nat → Prop) : Prop := ∃ S', RamAt w' b n ct S' ∧ Turned S w w' ∧ ∀ g, S' g → S g ∨ w.heap.size ≤ g
theorem set_old {w : World} {b m n : Nat} {pg : Nat → Option Nat} {ct : Nat → Nat} (h : RamIs w b m n pg ct) {k j g : Nat} (hp : pg k = some g) (hj : j < 4096) (v : Nat) (hv : v < 256) :
    RamTo w (w.setCell ⟨g, j, none⟩ (.int .u8 v)) b n (updB ct (4096 * k + j) v) (RamOwn m pg) := by
  have hs := RamAt.self ⟨m, pg, h, rfl⟩
  have hgb : g ≠ b := by rintro rfl; exact hs.1 (.inr ⟨k, hp⟩)
  have hgm : g ≠ m := by
    rintro rfl
    obtain ⟨es, c, hm⟩ := h.map_is
    rw [h.page k g hp] at hm
    cases hm
  refine ⟨RamOwn m pg, ⟨m, pg, ⟨(blk_set_ne _ _ hgb).trans h.at_, h.lo, h.hi, ?_, fun k' g' hk' => ?_, fun k' hk' j' hj' => ?_, h.inj, fun i => ?_, h.small⟩, rfl⟩, ?_, fun _ => .inl⟩
  · obtain ⟨D, hD⟩ := h.map
    exact ⟨D, hD.kept (blk_set_ne _ _ hgm)⟩
  · by_cases e : g' = g
    · subst e
      obtain rfl := h.inj k k' g' hp hk'
      rw [blk_set (h.page k g' hp), pageArr_set _ _ _ hj]
      refine congrArg (fun c => some (Obj.cells c _ _)) (pageArr_congr fun i hi => ?_)
      unfold updB
      by_cases hij : i = j
      · subst hij; simp
      · rw [if_neg hij, if_neg (by omega)]
    · rw [blk_set_ne _ _ (fun h => e h.symm), h.page k' g' hk']
      refine congrArg (fun c => some (Obj.cells c _ _)) (pageArr_congr fun i hi => ?_)
      unfold updB
      rw [if_neg]
      intro hx
      have : k' = k := by omega
      subst this
      rw [hp] at hk'
      exact e (Option.some.inj hk').symm
  · unfold updB
    rw [if_neg]
    · exact h.zero k' hk' j' hj'
    · intro hx
      have : k' = k := by omega
      subst this
      rw [hp] at hk'
      cases hk'
  · unfold updB
    split
    · exact hv
    · exact h.bd i
  · exact (Turned.refl _ w).set (.inl (.inr ⟨k, hp⟩)) _ _
theorem set_new {w : World} {b m n : Nat} {pg : Nat → Option Nat} {ct : Nat → Nat} (h : RamIs w b m n pg ct) {k j : Nat} (hp : pg k = none) (hk : k < 256) (hj : j < 4096) (v : Nat) (hv : v < 256) {o : Obj} (ho : o = .cells (pageArr fun _ => 0) 122)
    {w1 : World} {D : DataW Unit} (hm : PgMap w1 m (pgSet pg k w.heap.size) D) (hg : (w.alloc o).grownBy w1 (some m)) :
    RamTo w (w1.setCell ⟨w.heap.size, j, none⟩ (.int .u8 v)) b n (updB ct (4096 * k + j) v) (RamOwn m pg) := by
  subst ho
  have hs := RamAt.self ⟨m, pg, h, rfl⟩
  have hlt : ∀ g, RamOwn m pg g → g < w.heap.size := fun g hg => RamAt.lt ⟨m, pg, h, rfl⟩ hg
  have hmg : m < w.heap.size := hlt m (.inl rfl)
  have hbm : b ≠ m := by rintro rfl; exact hs.1 (.inl rfl)
  have hold : ∀ g, g < w.heap.size → g ≠ m → (w1.setCell ⟨w.heap.size, j, none⟩ (.int .u8 v)).heap[g]? = w.heap[g]? := fun g hg1 hg2 => by
    rw [blk_set_ne _ _ (by simp; omega), hg.block g (by simp; omega) (by simpa using hg2), blk_alloc_old _ _ _ hg1]
  have hnew : w1.heap[w.heap.size]? = some (.cells (pageArr fun _ => 0) 122 (0, 0)) := by
    rw [hg.block w.heap.size (by simp) (by simp; omega), blk_alloc]
  refine ⟨RamOwn m (pgSet pg k w.heap.size), ⟨m, pgSet pg k w.heap.size, ⟨(hold b hs.2 hbm).trans h.at_, h.lo, h.hi, ⟨D, hm.kept (blk_set_ne _ _ (by simp; omega))⟩, fun k' g' hk' => ?_, fun k' hk' j' hj' => ?_, fun k1 k2 g' h1 h2 => ?_, fun i => ?_, fun k' hk' => ?_⟩, rfl⟩, ?_, ?_⟩
  · unfold pgSet at hk'
    by_cases e : k' = k
    · subst e
      rw [if_pos rfl] at hk'
      obtain rfl := Option.some.inj hk'
      rw [blk_set hnew, pageArr_set _ _ _ hj]
      refine congrArg (fun c => some (Obj.cells c _ _)) (pageArr_congr fun i hi => ?_)
      unfold updB
      by_cases hij : i = j
      · subst hij; simp
      · rw [if_neg hij, if_neg (by omega), h.zero k' hp i hi]
    · rw [if_neg e] at hk'
      have hgm : g' ≠ m := by
        rintro rfl
        obtain ⟨es, c, hm⟩ := h.map_is
        rw [h.page k' g' hk'] at hm
        cases hm
      rw [hold g' (hlt g' (.inr ⟨k', hk'⟩)) hgm, h.page k' g' hk']
      refine congrArg (fun c => some (Obj.cells c _ _)) (pageArr_congr fun i hi => ?_)
      unfold updB
      rw [if_neg (by omega)]
  · unfold pgSet at hk'
    by_cases e : k' = k
    · rw [if_pos e] at hk'; cases hk'
    · rw [if_neg e] at hk'
      unfold updB
      rw [if_neg (by omega)]
      exact h.zero k' hk' j' hj'
  · unfold pgSet at h1 h2
    by_cases e1 : k1 = k <;> by_cases e2 : k2 = k
    · rw [e1, e2]
    · rw [if_pos e1] at h1; rw [if_neg e2] at h2
      have := hlt g' (.inr ⟨k2, h2⟩)
      have := Option.some.inj h1
      omega
    · rw [if_neg e1] at h1; rw [if_pos e2] at h2
      have := hlt g' (.inr ⟨k1, h1⟩)
      have := Option.some.inj h2
      omega
    · rw [if_neg e1] at h1; rw [if_neg e2] at h2
      exact h.inj k1 k2 g' h1 h2
  · unfold updB
    split
    · exact hv
    · exact h.bd i
  · unfold pgSet at hk'
    by_cases e : k' = k
    · rw [e]; exact hk
    · rw [if_neg e] at hk'; exact h.small k' hk'
  · exact (((Turned.refl (RamOwn m pg) w).alloc (.cells (pageArr fun _ => 0) 122)).trans (Turned.of_grown hg) (by rintro _ rfl; exact .inl (.inl rfl))).set (.inr (Nat.le_refl _)) _ _
  · rintro g (rfl | ⟨k', hk'⟩)
    · exact .inl (.inl rfl)
    · unfold pgSet at hk'
      by_cases e : k' = k
      · rw [if_pos e] at hk'
        right
        have := Option.some.inj hk'
        omega
      · rw [if_neg e] at hk'
        exact .inl (.inr ⟨k', hk'⟩)
theorem zero_page : Try.zeroCells122 = pageArr fun _ => 0 := by kernel_rfl
theorem new_page {w w1 : World} {m j : Nat} (hg : (w.alloc (.cells Try.zeroCells122 122)).grownBy w1 (some m)) (hj : j < 4096) (hm : m < w.heap.size) : w1.cell? ⟨w.heap.size, j, none⟩ = some (.int .u8 0) ∧ w1.frozen? ⟨w.heap.size, j, none⟩ = false := by
  have hnew : w1.heap[w.heap.size]? = some (.cells (pageArr fun _ => 0) 122 (0, 0)) := by
    rw [hg.block w.heap.size (by simp) (by simp; omega), blk_alloc, zero_page]
  exact ⟨(blk_cell hnew j).trans (pageArr_get _ _ hj), blk_frozen hnew j⟩
set_option maxRecDepth 100000 in
set_option maxHeartbeats 1000000 in
theorem ram_set {w : World} {b m n : Nat} {pg : Nat → Option Nat} {ct : Nat → Nat} (h : RamIs w b m n pg ct) (x : Int) (x0 : 0 ≤ x) (x1 : x < 1048576) (v : Nat) (hv : v < 256) :
    Calls Try.prog 65 #[.pointer (some ⟨b, 0, none⟩), .int .i64 x, .int .u8 v] w fun e w' => e = .returned (.tuple #[]) ∧ RamTo w w' b n (updB ct x.toNat v) (RamOwn m pg) := by
  obtain ⟨k, hk⟩ := Int.eq_ofNat_of_zero_le (show 0 ≤ x / 4096 by omega)
  obtain ⟨j, hj⟩ := Int.eq_ofNat_of_zero_le (show 0 ≤ x % 4096 by omega)
  have hk2 : (k : Int) < 256 := by omega
  have hj2 : (j : Int) < 4096 := by omega
  have hx : Hid (x.toNat = 4096 * k + j) := by show _ = _; omega
  obtain ⟨D, hD⟩ := h.map
  have hl := hD.lookup (k := k) (by omega)
  have c0 : w.cell? ⟨b, 1, none⟩ = some (.map (some m)) := blk_cell h.at_ 1
  have HV := Lib.hid hv
  clear hv
  rcases hp : pg k with _ | g
  · rw [hp] at hl
    simp only [pgV] at hl
    have HH := Lib.hid h
    have HP := Lib.hid hp
    have HD := Lib.hid hD
    clear h hD hp
    go_enter Try.func65, Try.ntmps65
    have HKEY : Hid (keyOf Try.prog 3 (.int .i64 (x / 4096)) = some (keyL k)) := by show _ = _; rw [hk]; exact keyOf_nat (by omega)
    have hbl : b < w.heap.size := (RamAt.self ⟨m, pg, HH.out, rfl⟩).2
    go_wp2_with (at_mapUpdate; refine wpList_mapUpdate_own _ rfl _ _ _ 112 rfl 3 120 keyI Try.underlying112 pgR m (pgCount pg 256) D rfl (HD.out.own.alloc _) (Nat.lt_of_le_of_lt (pgCount_le pg 256) (by decide)) _ _ (keyL k) rfl rfl HKEY.out _ [] (pgR_V (some w.heap.size)) ?_; intro w1 hown1 hgrow1; have HN := Lib.hid (new_page hgrow1 (j := j) (by omega) HD.out.own.lt); have cN := HN.out.1; have fN := HN.out.2; have HS := Lib.hid (set_new (j := j) HH.out HP.out (by omega) (by omega) v HV.out (by rw [zero_page]) (HD.out.put (by omega) HP.out w.heap.size hown1) hgrow1); clear hown1 hgrow1 HD HH HKEY)
    go_end0
    exact ⟨rfl, by rw [hx.out]; exact HS.out⟩
  · have hc : w.cell? ⟨g, j, none⟩ = some (.int .u8 (ct (4096 * k + j))) := (blk_cell (h.page k g hp) j).trans (pageArr_get _ _ (by omega))
    have hf : w.frozen? ⟨g, j, none⟩ = false := blk_frozen (h.page k g hp) j
    have HS : Hid (RamTo w (w.setCell ⟨g, j, none⟩ (.int .u8 v)) b n (updB ct x.toNat v) (RamOwn m pg)) := by show RamTo _ _ _ _ _ _; rw [hx.out]; exact set_old h hp (by omega) v HV.out
    rw [hp] at hl
    simp only [pgV] at hl
    clear h hD hp
    go_enter Try.func65, Try.ntmps65
    go_wp2
    go_end0
    exact ⟨rfl, HS.out⟩
end Go.Proofs.Ytebdbbpefmgooaa
