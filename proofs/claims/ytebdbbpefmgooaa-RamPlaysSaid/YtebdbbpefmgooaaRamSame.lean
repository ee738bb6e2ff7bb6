/- Contracts of Ram.Same: have both the same bytes? No condition. -/
import Derived.Test.YtebdbbpefmgooaaRamFork
import Derived.Test.YtebdbbpefmgooaaEqArr
import Derived.Deep.MidRow
import Derived.StillTailTactics
import Derived.BigRegion
import Derived.Deep.RegionWith
import Derived.Deep.RegionHeld3
import Derived.Deep.QuietTactic
import Derived.BigQuiet
import Derived.Deep.LoopGhost
import Derived.Deep.DeepCutAuto
import Derived.Deep.DeepFit
import Derived.Deep.DeepMust
import Derived.Handy
set_option linter.unusedVariables false
set_option linter.unusedSimpArgs false
namespace Go.Proofs.Ytebdbbpefmgooaa
open Go.RowKit
set_option maxRecDepth 100000
theorem sz_u8 (w : World) : (sizeOf 5).run Try.prog w = .ok 1 w := by kernel_rfl
/-- are two pages alike? -/
def pgEq (f g : Nat → Nat) : Bool := ((List.range 4096).map fun j => (f j : Int)) == (List.range 4096).map fun j => (g j : Int)
theorem pgEq_iff (f g : Nat → Nat) : pgEq f g = true ↔ ∀ j, j < 4096 → f j = g j := by
  unfold pgEq
  rw [beq_iff_eq]
  constructor
  · intro h j hj
    have h2 := congrArg (fun l : List Int => l[j]?) h
    simp [hj] at h2
    omega
  · intro h
    refine List.map_congr_left fun j hj => ?_
    rw [h j (List.mem_range.1 hj)]
theorem pageArr_list (f : Nat → Nat) : pageArr f = (((List.range 4096).map fun j => (f j : Int)).map (Value.int .u8)).toArray := by
  unfold pageArr
  rw [List.map_map]
  rfl
theorem eq_page (f g : Nat → Nat) (w : World) : (Op.equalIn 10000 122 (.agg (pageArr f)) (.agg (pageArr g))).run Try.prog w = .ok (pgEq f g) w := by
  have h := run_equalIn_ints (P := Try.prog) w 9998 122 5 .u8 4096 Try.underlying122 Try.underlying5 sz_u8 ((List.range 4096).map fun j => (f j : Int)) ((List.range 4096).map fun j => (g j : Int)) (by rw [List.length_map, List.length_range]) (by rw [List.length_map, List.length_range])
  rw [← pageArr_list, ← pageArr_list] at h
  exact h
/-- the bytes of both memories are alike -/
def AllEq (n : Nat) (f g : Nat → Nat) : Prop := ∀ i, i < 4096 * n → f i = g i
theorem AllEq.page {n : Nat} {f g : Nat → Nat} (h : AllEq n f g) (he : pgEq (fun j => f (4096 * n + j)) (fun j => g (4096 * n + j)) = true) : AllEq (n + 1) f g := fun i hi => by
  by_cases e : i < 4096 * n
  · exact h i e
  · have := (pgEq_iff _ _).1 he (i - 4096 * n) (by omega)
    rw [show 4096 * n + (i - 4096 * n) = i by omega] at this
    exact this
theorem AllEq.not {n k : Nat} {f g : Nat → Nat} (hk : k < n) (he : pgEq (fun j => f (4096 * k + j)) (fun j => g (4096 * k + j)) = false) : ¬ AllEq n f g := fun h => by
  rw [(pgEq_iff _ _).2 fun j hj => h _ (by omega)] at he
  cases he
/-- a page's bytes, as Same reads them -/
def pgF (p : Option Nat) (ct : Nat → Nat) (k : Nat) : Nat → Nat := match p with | none => fun _ => 0 | some _ => fun j => ct (4096 * k + j)
theorem pgF_eq {p p2 : Option Nat} {ct ct2 : Nat → Nat} {k : Nat} (h1 : p = none → ∀ j, j < 4096 → ct (4096 * k + j) = 0) (h2 : p2 = none → ∀ j, j < 4096 → ct2 (4096 * k + j) = 0) :
    pgEq (pgF p ct k) (pgF p2 ct2 k) = pgEq (fun j => ct (4096 * k + j)) (fun j => ct2 (4096 * k + j)) := by
  rw [Bool.eq_iff_iff, pgEq_iff, pgEq_iff]
  have e1 : ∀ j, j < 4096 → pgF p ct k j = ct (4096 * k + j) := fun j hj => by
    cases p with
    | none => exact (h1 rfl j hj).symm
    | some g => rfl
  have e2 : ∀ j, j < 4096 → pgF p2 ct2 k j = ct2 (4096 * k + j) := fun j hj => by
    cases p2 with
    | none => exact (h2 rfl j hj).symm
    | some g => rfl
  exact ⟨fun h j hj => by rw [← e1 j hj, ← e2 j hj]; exact h j hj, fun h j hj => by rw [e1 j hj, e2 j hj]; exact h j hj⟩
/-- a page's cells, as Same loads them -/
noncomputable def pgC (p : Option Nat) (ct : Nat → Nat) (k : Nat) : Array Value := match p with | none => Try.zeroCells122 | some _ => pageArr fun j => ct (4096 * k + j)
theorem pgC_eq (p : Option Nat) (ct : Nat → Nat) (k : Nat) : pgC p ct k = pageArr (pgF p ct k) := by
  cases p with
  | none => exact zero_page
  | some g => rfl
theorem eq_pages {p p2 : Option Nat} {ct ct2 : Nat → Nat} {k : Nat} (w : World) (h1 : p = none → ∀ j, j < 4096 → ct (4096 * k + j) = 0) (h2 : p2 = none → ∀ j, j < 4096 → ct2 (4096 * k + j) = 0) :
    (Op.equalIn 10000 122 (.agg (pgC p ct k)) (.agg (pgC p2 ct2 k))).run Try.prog w = .ok (pgEq (fun j => ct (4096 * k + j)) (fun j => ct2 (4096 * k + j))) w := by
  rw [pgC_eq, pgC_eq, eq_page, pgF_eq h1 h2]
theorem zero_size : (Try.zeroCells122.size == 4096) = true := by rw [zero_page, pageArr_size]; rfl
theorem below_drewN {B : Nat} {a w : World} (h : Below B a w) (n : Nat) : Below B a (w.drewN n) := h.trans ⟨rfl, rfl, rfl, Nat.le_refl _, fun _ _ => rfl⟩
attribute [local go_sem ↓] ld_page st_page
attribute [local go_sem] rl_page rs_page row_alloc row_drew row_drewN is_alloc is_drew is_drewN row_setCell is_setCell setRow_alloc_new objRow_cells objIs_cells
set_option maxHeartbeats 4000000 in
theorem ram_same {w : World} {b b2 m m2 n : Nat} {pg pg2 : Nat → Option Nat} {ct ct2 : Nat → Nat} (h : RamIs w b m n pg ct) (h2 : RamIs w b2 m2 n pg2 ct2) :
    Calls Try.prog 50 #[.pointer (some ⟨b, 0, none⟩), .pointer (some ⟨b2, 0, none⟩)] w fun e w' => (∃ v, e = .returned (.bool v) ∧ (v = true ↔ AllEq n ct ct2)) ∧ Below w.heap.size w w' := by
  have c0 : w.cell? ⟨b, 0, none⟩ = some (.int .i64 n) := blk_cell h.at_ 0
  have c1 : w.cell? ⟨b, 1, none⟩ = some (.map (some m)) := blk_cell h.at_ 1
  have d0 : w.cell? ⟨b2, 0, none⟩ = some (.int .i64 n) := blk_cell h2.at_ 0
  have d1 : w.cell? ⟨b2, 1, none⟩ = some (.map (some m2)) := blk_cell h2.at_ 1
  have hbl : b < w.heap.size := blk_lt h.at_
  have hbl2 : b2 < w.heap.size := blk_lt h2.at_
  have hn : (n : Int) ≤ 256 := by have := h.hi; omega
  have hmx : max (n : Int) n = n := by omega
  have hmx2 : max n n = n := by omega
  have HN0 : AllEq 0 ct ct2 := fun i hi => by omega
  have H := Lib.hid h
  have H2 := Lib.hid h2
  clear h h2
  go_enter Try.func50, Try.ntmps50
  go_upto_region 3 with fail
  go_quiet (fail)
  go_wp2_with fail
  go_loopw [29] (fun i wr => ∃ k : Nat, k ≤ n ∧ i = .int .i64 k ∧ AllEq k ct ct2 ∧ Below w.heap.size w wr) (fun i _ => n - (intOf i).toNat)
  case atStart => exact ⟨0, Nat.zero_le _, rfl, HN0, by first | exact below_drewN (Below.refl _ _) _ | exact Below.refl _ _⟩
  case round =>
    obtain ⟨k, hk, rfl, hall, hb⟩ := hrel
    have HALL := Lib.hid hall
    have HB := Lib.hid hb
    clear hall hb
    by_cases hlt : k < n
    · have r0 : wr.heap[b]? = w.heap[b]? := HB.out.block b hbl
      have q0 : wr.heap[b2]? = w.heap[b2]? := HB.out.block b2 hbl2
      have e1 : wr.cell? ⟨b, 1, none⟩ = some (.map (some m)) := blk_cell (r0.trans H.out.at_) 1
      have f1 : wr.cell? ⟨b2, 1, none⟩ = some (.map (some m2)) := blk_cell (q0.trans H2.out.at_) 1
      obtain ⟨D, hD⟩ := H.out.map
      obtain ⟨D2, hD2⟩ := H2.out.map
      have hk3 : k < 256 := by have := H.out.hi; omega
      have hl1 := fun q => (hD.kept (w' := wr.drewN q) (HB.out.block m H.out.map_lt)).lookup hk3
      have hl2 := fun q => (hD2.kept (w' := wr.drewN q) (HB.out.block m2 H2.out.map_lt)).lookup hk3
      clear hD hD2
      go_wp2_with fail
      go_quiet (fail)
      have hz1 : pg k = none → ∀ j, j < 4096 → ct (4096 * k + j) = 0 := H.out.zero k
      have hz2 : pg2 k = none → ∀ j, j < 4096 → ct2 (4096 * k + j) = 0 := H2.out.zero k
      have hE := fun w => eq_pages (k := k) w hz1 hz2
      clear hz1 hz2
      cases he : pgEq (fun j => ct (4096 * k + j)) (fun j => ct2 (4096 * k + j)) with
      | true =>
        have HE := Lib.hid he
        simp only [he] at hE
        clear he
        rcases hp1 : pg k with _ | g1 <;> rcases hp2 : pg2 k with _ | g2 <;> simp only [hp1, hp2] at hE <;> simp only [pgC, pgV] at hE ⊢
        · clear hl1 hl2 e1 f1 r0 q0 hp1 hp2
          have hzs := zero_size
          go_upto_region 11 with fail
          generalize Try.zeroCells122 = Z at hE hzs ⊢
          generalize hW : ((wr.drewN nq).alloc (.cells Z 122)).alloc (.cells Z 122) = W
          have r1 : rowIs W wr.heap.size 4096 = true := by rw [← hW]; exact (is_alloc_old _ _ _ _ (by simp)).trans ((is_alloc_new _ _ _ _).trans hzs)
          have o1 : rowOf W wr.heap.size = Z := by rw [← hW]; exact (row_alloc_old _ _ _ (by simp)).trans (row_alloc_new _ _ _ _)
          have r2 : rowIs W (wr.heap.size + 1) 4096 = true := by rw [← hW]; have := is_alloc_new ((wr.drewN nq).alloc (.cells Z 122)) Z 122 4096; simp at this; exact this.trans (by simpa using hzs)
          have o2 : rowOf W (wr.heap.size + 1) = Z := by rw [← hW]; have := row_alloc_new ((wr.drewN nq).alloc (.cells Z 122)) Z 122 (0, 0); simpa using this
          have HBW : Hid (Below w.heap.size w W) := by rw [← hW]; exact by repeat first | exact HB.out | refine below_drewN ?_ _ | refine Below.alloc ?_ (by have := HB.out.size; first | omega | (simp; omega)) _
          obtain ⟨Z2, hz2⟩ : ∃ Z2, Z = Z2 := ⟨_, rfl⟩
          have o3 := o2.trans hz2
          have hE2 : ∀ w, (Op.equalIn 10000 122 (.agg Z) (.agg Z2)).run Try.prog w = .ok true w := fun w => by rw [← hz2]; exact hE w
          clear hW hzs o2 hE hz2
          go_quiet (fail)
          go_wp2_with fail
          go_roundw
          case rel => exact ⟨k + 1, hlt, by go_num, HALL.out.page HE.out, by repeat first | exact HBW.out | refine below_drewN ?_ _⟩
          case measure => simp [intOf]; omega
        · have hg2 : g2 < w.heap.size := RamAt.lt ⟨m2, pg2, H2.out, rfl⟩ (.inr ⟨k, hp2⟩)
          obtain ⟨rb, ob⟩ := page_row ((HB.out.block g2 hg2).trans (H2.out.page k g2 hp2))
          have hgb : g2 < wr.heap.size := by have := HB.out.size; omega
          clear hl1 hl2 e1 f1 r0 q0 hp1 hp2
          have hzs := zero_size
          go_upto_region 11 with fail
          generalize Try.zeroCells122 = Z at hE hzs ⊢
          go_quiet (fail)
          go_wp2_with fail
          go_roundw
          case rel => exact ⟨k + 1, hlt, by go_num, HALL.out.page HE.out, by repeat first | exact HB.out | refine below_drewN ?_ _ | refine Below.alloc ?_ (by have := HB.out.size; first | omega | (simp; omega)) _⟩
          case measure => simp [intOf]; omega
        · have hg1 : g1 < w.heap.size := RamAt.lt ⟨m, pg, H.out, rfl⟩ (.inr ⟨k, hp1⟩)
          obtain ⟨ra, oa⟩ := page_row ((HB.out.block g1 hg1).trans (H.out.page k g1 hp1))
          have hga : g1 < wr.heap.size := by have := HB.out.size; omega
          clear hl1 hl2 e1 f1 r0 q0 hp1 hp2
          have hzs := zero_size
          go_upto_region 11 with fail
          generalize Try.zeroCells122 = Z at hE hzs ⊢
          go_quiet (fail)
          go_wp2_with fail
          go_roundw
          case rel => exact ⟨k + 1, hlt, by go_num, HALL.out.page HE.out, by repeat first | exact HB.out | refine below_drewN ?_ _ | refine Below.alloc ?_ (by have := HB.out.size; first | omega | (simp; omega)) _⟩
          case measure => simp [intOf]; omega
        · have hg1 : g1 < w.heap.size := RamAt.lt ⟨m, pg, H.out, rfl⟩ (.inr ⟨k, hp1⟩)
          obtain ⟨ra, oa⟩ := page_row ((HB.out.block g1 hg1).trans (H.out.page k g1 hp1))
          have hga : g1 < wr.heap.size := by have := HB.out.size; omega
          have hg2 : g2 < w.heap.size := RamAt.lt ⟨m2, pg2, H2.out, rfl⟩ (.inr ⟨k, hp2⟩)
          obtain ⟨rb, ob⟩ := page_row ((HB.out.block g2 hg2).trans (H2.out.page k g2 hp2))
          have hgb : g2 < wr.heap.size := by have := HB.out.size; omega
          clear hl1 hl2 e1 f1 r0 q0 hp1 hp2
          go_wp2_with fail
          go_quiet (fail)
          go_wp2_with fail
          go_roundw
          case rel => exact ⟨k + 1, hlt, by go_num, HALL.out.page HE.out, by repeat first | exact HB.out | refine below_drewN ?_ _ | refine Below.alloc ?_ (by have := HB.out.size; first | omega | (simp; omega)) _⟩
          case measure => simp [intOf]; omega
      | false =>
        have HE := Lib.hid he
        simp only [he] at hE
        clear he
        rcases hp1 : pg k with _ | g1 <;> rcases hp2 : pg2 k with _ | g2 <;> simp only [hp1, hp2] at hE <;> simp only [pgC, pgV] at hE ⊢
        · clear hl1 hl2 e1 f1 r0 q0 hp1 hp2
          have hzs := zero_size
          go_upto_region 11 with fail
          generalize Try.zeroCells122 = Z at hE hzs ⊢
          generalize hW : ((wr.drewN nq).alloc (.cells Z 122)).alloc (.cells Z 122) = W
          have r1 : rowIs W wr.heap.size 4096 = true := by rw [← hW]; exact (is_alloc_old _ _ _ _ (by simp)).trans ((is_alloc_new _ _ _ _).trans hzs)
          have o1 : rowOf W wr.heap.size = Z := by rw [← hW]; exact (row_alloc_old _ _ _ (by simp)).trans (row_alloc_new _ _ _ _)
          have r2 : rowIs W (wr.heap.size + 1) 4096 = true := by rw [← hW]; have := is_alloc_new ((wr.drewN nq).alloc (.cells Z 122)) Z 122 4096; simp at this; exact this.trans (by simpa using hzs)
          have o2 : rowOf W (wr.heap.size + 1) = Z := by rw [← hW]; have := row_alloc_new ((wr.drewN nq).alloc (.cells Z 122)) Z 122 (0, 0); simpa using this
          have HBW : Hid (Below w.heap.size w W) := by rw [← hW]; exact by repeat first | exact HB.out | refine below_drewN ?_ _ | refine Below.alloc ?_ (by have := HB.out.size; first | omega | (simp; omega)) _
          obtain ⟨Z2, hz2⟩ : ∃ Z2, Z = Z2 := ⟨_, rfl⟩
          have o3 := o2.trans hz2
          have hE2 : ∀ w, (Op.equalIn 10000 122 (.agg Z) (.agg Z2)).run Try.prog w = .ok false w := fun w => by rw [← hz2]; exact hE w
          clear hW hzs o2 hE hz2
          go_quiet (fail)
          go_wp2_with fail
          go_ret
          exact ⟨⟨false, rfl, fun h => (by cases h), fun h => absurd h (AllEq.not hlt HE.out)⟩, by repeat first | exact HBW.out | refine below_drewN ?_ _⟩
        · have hg2 : g2 < w.heap.size := RamAt.lt ⟨m2, pg2, H2.out, rfl⟩ (.inr ⟨k, hp2⟩)
          obtain ⟨rb, ob⟩ := page_row ((HB.out.block g2 hg2).trans (H2.out.page k g2 hp2))
          have hgb : g2 < wr.heap.size := by have := HB.out.size; omega
          clear hl1 hl2 e1 f1 r0 q0 hp1 hp2
          have hzs := zero_size
          go_upto_region 11 with fail
          generalize Try.zeroCells122 = Z at hE hzs ⊢
          go_quiet (fail)
          go_wp2_with fail
          go_ret
          exact ⟨⟨false, rfl, fun h => (by cases h), fun h => absurd h (AllEq.not hlt HE.out)⟩, by repeat first | exact HB.out | refine below_drewN ?_ _ | refine Below.alloc ?_ (by have := HB.out.size; first | omega | (simp; omega)) _⟩
        · have hg1 : g1 < w.heap.size := RamAt.lt ⟨m, pg, H.out, rfl⟩ (.inr ⟨k, hp1⟩)
          obtain ⟨ra, oa⟩ := page_row ((HB.out.block g1 hg1).trans (H.out.page k g1 hp1))
          have hga : g1 < wr.heap.size := by have := HB.out.size; omega
          clear hl1 hl2 e1 f1 r0 q0 hp1 hp2
          have hzs := zero_size
          go_upto_region 11 with fail
          generalize Try.zeroCells122 = Z at hE hzs ⊢
          go_quiet (fail)
          go_wp2_with fail
          go_ret
          exact ⟨⟨false, rfl, fun h => (by cases h), fun h => absurd h (AllEq.not hlt HE.out)⟩, by repeat first | exact HB.out | refine below_drewN ?_ _ | refine Below.alloc ?_ (by have := HB.out.size; first | omega | (simp; omega)) _⟩
        · have hg1 : g1 < w.heap.size := RamAt.lt ⟨m, pg, H.out, rfl⟩ (.inr ⟨k, hp1⟩)
          obtain ⟨ra, oa⟩ := page_row ((HB.out.block g1 hg1).trans (H.out.page k g1 hp1))
          have hga : g1 < wr.heap.size := by have := HB.out.size; omega
          have hg2 : g2 < w.heap.size := RamAt.lt ⟨m2, pg2, H2.out, rfl⟩ (.inr ⟨k, hp2⟩)
          obtain ⟨rb, ob⟩ := page_row ((HB.out.block g2 hg2).trans (H2.out.page k g2 hp2))
          have hgb : g2 < wr.heap.size := by have := HB.out.size; omega
          clear hl1 hl2 e1 f1 r0 q0 hp1 hp2
          go_wp2_with fail
          go_quiet (fail)
          go_wp2_with fail
          go_ret
          exact ⟨⟨false, rfl, fun h => (by cases h), fun h => absurd h (AllEq.not hlt HE.out)⟩, by repeat first | exact HB.out | refine below_drewN ?_ _ | refine Below.alloc ?_ (by have := HB.out.size; first | omega | (simp; omega)) _⟩
    · obtain rfl : k = n := by omega
      have e0 : wr.cell? ⟨b, 0, none⟩ = some (.int .i64 k) := blk_cell ((HB.out.block b hbl).trans H.out.at_) 0
      have f0 : wr.cell? ⟨b2, 0, none⟩ = some (.int .i64 k) := blk_cell ((HB.out.block b2 hbl2).trans H2.out.at_) 0
      go_wp2_with fail
      go_quiet (fail)
      go_wp2_with fail
      go_ret
      exact ⟨⟨true, rfl, fun _ => HALL.out, fun _ => rfl⟩, by first | exact below_drewN HB.out _ | exact HB.out⟩
end Go.Proofs.Ytebdbbpefmgooaa
