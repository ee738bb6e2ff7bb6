/- The cache's lines, as an iterator; Len. No condition. -/
import Derived.Test.YtlcedcjcecahoaaCache6
import Derived.RangeFuncNested
import Derived.RangeFuncBound
import Derived.RangeFuncCalls
import Derived.RangeFuncLeaves
import Derived.RangeFuncFrom
import Derived.Shelf.Abstract
import Derived.Shelf.RegionOpen
import Derived.WalkKit
import Derived.OwnWalkIn
import Derived.TacticsInMore
import Derived.LoopNIn
import Derived.LoopIn
set_option linter.unusedVariables false
set_option linter.unusedSimpArgs false
namespace Go.Proofs.Ytlcedcjcecahoaa
open Go.RowKit Go.Shelf
set_option maxRecDepth 100000
attribute [local go_sem] Oper.semAt_some
theorem lineAt_new (w : World) (l : CLine) : lineAt (w.alloc (.cells (lineArr l) 76)) w.heap.size 0 = lineArr l := by
  unfold lineAt
  conv => rhs; unfold lineArr lineVals
  congr 1
  refine List.map_congr_left fun i hi => ?_
  have hi := List.mem_range.1 hi
  rw [blk_cell (blk_alloc w _), Nat.zero_add, lineArr_get _ _ hi]
  rfl
/-- the lines that are there, of the first j ways; of the first s sets -/
def validIn (L : Nat → CLine) (j : Nat) : List CLine := ((List.range j).map L).filter (·.v)
def validTo (L : Nat → Nat → CLine) (m s : Nat) : List CLine := (List.range s).flatMap fun t => validIn (L t) m
theorem validIn_succ (L : Nat → CLine) (j : Nat) : validIn L (j + 1) = validIn L j ++ (if (L j).v then [L j] else []) := by
  unfold validIn
  rw [List.range_succ, List.map_append, List.filter_append]
  congr 1
  cases h : (L j).v <;> simp [h]
theorem validIn_len (L : Nat → CLine) (j : Nat) : (validIn L j).length ≤ j := by
  unfold validIn
  exact Nat.le_trans (List.length_filter_le _ _) (by simp)
theorem validTo_succ (L : Nat → Nat → CLine) (m s : Nat) : validTo L m (s + 1) = validTo L m s ++ validIn (L s) m := by
  unfold validTo
  rw [List.range_succ]
  simp
theorem validTo_len (L : Nat → Nat → CLine) (m : Nat) : ∀ s, (validTo L m s).length ≤ s * m
  | 0 => by simp [validTo]
  | s + 1 => by
    rw [validTo_succ, List.length_append]
    have := validTo_len L m s
    have := validIn_len (L s) m
    rw [Nat.succ_mul]
    omega
/-- all of it lies below n0 -/
theorem CacheIs.lie {w w' : World} {b sb : Nat} {wb : Nat → Nat} {n m : Nat} {L : Nat → Nat → CLine} {st : Nat → Nat} (h : CacheIs w b sb wb n m L st) {n0 : Nat} (hb : Below n0 w w') (h1 : b < n0) (h2 : ∀ g, CacheOwn sb wb n g → g < n0) : CacheIs w' b sb wb n m L st :=
  ⟨(hb.block _ h1).trans h.at_, h.sets.of_block (hb.block _ (h2 _ (.inl rfl))), fun s hs => (h.ways s hs).of_block (hb.block _ (h2 _ (.inr ⟨s, hs, rfl⟩))), h.inj, h.hn, h.hm, h.hst, h.ok⟩
attribute [local go_sem ↓] ld_line st_line
attribute [local go_sem] rl_line rs_line set_new there_new lineAt_new zc_line
def LinesEnd (J Jx : List CLine → World → Prop) (X : List CLine) (e : Ending) (W' : World) : Prop := (∃ v, e = .returned v) ∧ ((∃ ys, ys = X ∧ J ys W') ∨ (∃ pre, True ∧ Jx pre W'))
set_option maxHeartbeats 4000000 in
theorem lines_1 (F : Fence) (k : Nat) (hF : F.fn 51) (hro : F.round = none) (hk : 1 ≤ k) (l pb n0 : Nat) {W : World} {b sb : Nat} {wb : Nat → Nat} {n m : Nat} {L : Nat → Nat → CLine} {st : Nat → Nat} (h : CacheIs W b sb wb n m L st) (hb0 : b < n0) (hg0 : ∀ g, CacheOwn sb wb n g → g < n0)
    (hn0 : n0 ≤ W.heap.size) (J Jx : List CLine → World → Prop) (hJ : AbidesFrom W.heap.size J) (hJx : AbidesFrom W.heap.size Jx)
    (hY : ∀ pre x W, J pre W → pre.length < n * m → YieldAt F (k - 1) Try.prog l #[.agg (lineArr x)] W fun e W' =>
      (e = .returned (.bool true) ∧ J (pre ++ [x]) W' ∧ Below n0 W W') ∨ (e = .returned (.bool false) ∧ Jx (pre ++ [x]) W'))
    (hc : W.cell? ⟨pb, 0, none⟩ = some (.pointer (some ⟨b, 0, none⟩))) (h0 : J [] W) :
    CallsIn F k Try.prog 51 #[.func (.yield l) #[] #[], .pointer (some ⟨pb, 0, none⟩)] W (LinesEnd J Jx (validTo L m n)) := by
  have H := Lib.hid h; have HB0 := Lib.hid hb0; have HG0 := Lib.hid hg0; have HJ := Lib.hid hJ; have HY := Lib.hid hY; have HN0 := Lib.hid hn0
  have c0 : W.cell? ⟨b, 0, none⟩ = some (.slice (some ⟨sb, 0, none⟩) n n) := blk_cell h.at_ 0
  have hn16 : (0 : Int) < n ∧ (n : Int) ≤ 16 := by rcases h.hn with rfl | rfl | rfl | rfl | rfl <;> omega
  have hm8 : (2 : Int) ≤ m ∧ (m : Int) ≤ 8 := by rcases h.hm with rfl | rfl | rfl <;> omega
  obtain ⟨n0', n16⟩ := hn16
  obtain ⟨m2, m8⟩ := hm8
  have H0 : Hid (J (validTo L m 0) W) := h0
  clear h hb0 hg0 hJ hJx hY hn0 h0
  refine callsIn_of_wp Try.func51 rfl hF ?_ hro
  simp only [Try.ntmps51, List.size_toArray, List.length_cons, List.length_nil, Nat.reduceAdd, Nat.reduceSub, Array.replicate_succ, Array.replicate_zero, List.push_toArray, List.append_toArray, List.nil_append, List.cons_append]
  gi_wp2
  gi_loopw [14] (fun i wr => ∃ s : Nat, (s : Int) ≤ n ∧ i = .int .i64 s ∧ J (validTo L m s) wr ∧ Below n0 W wr) (fun i _ => n - (intOf i).toNat)
  case atStart => first | exact ⟨0, by omega, rfl, H0.out, Below.refl _ _⟩ | exact ⟨0, by omega, rfl, H0.out⟩
  case round =>
    clear H0
    obtain ⟨s, hs, rfl, hj, hbe⟩ := hrel
    have HJS := Lib.hid hj; have HBE := Lib.hid hbe
    clear hj hbe
    by_cases hlt : (s : Int) < n
    · clear hs
      have H1 := Lib.hid (H.out.lie HBE.out HB0.out HG0.out)
      have d0 : wr.cell? ⟨sb, s * 2, none⟩ = some (.slice (some ⟨wb s, 0, none⟩) m m) := by rw [H1.out.sets.cell (by omega), setCellF_0]
      have d1 : wr.cell? ⟨sb, s * 2 + 1, none⟩ = some (.int .i64 (st s : Nat)) := by rw [H1.out.sets.cell (by omega), setCellF_1]
      have hlen0 := validTo_len L m s
      have hsm := Nat.mul_le_mul_right m (show s + 1 ≤ n by omega)
      have HLEN := Lib.hid hlen0; have HSM := Lib.hid hsm
      clear hlen0 hsm
      gi_wp2
      have HJ1 : Hid (J (validTo L m s ++ validIn (L s) 0) (wr.alloc (.cells #[.slice (some ⟨wb s, 0, none⟩) m m, .int .i64 (st s : Nat)] 65))) := by
        have e : validTo L m s ++ validIn (L s) 0 = validTo L m s := by simp [validIn]
        show J _ _
        rw [e]
        exact HJ.out _ _ _ none HJS.out (World.grownBy_alloc wr _ none) (fun r e => nomatch e)
      have HB1 : Hid (Below n0 W (wr.alloc (.cells #[.slice (some ⟨wb s, 0, none⟩) m m, .int .i64 (st s : Nat)] 65))) := HBE.out.alloc (Nat.le_trans HN0.out HBE.out.size) _
      clear HJS HBE H1 d0 d1
      generalize wr.alloc (.cells #[.slice (some ⟨wb s, 0, none⟩) m m, .int .i64 (st s : Nat)] 65) = w1 at *
      generalize wr.heap.size = obx at *
      gi_loopw [21] (fun i wr => ∃ j : Nat, (j : Int) ≤ m ∧ i = .int .i64 j ∧ J (validTo L m s ++ validIn (L s) j) wr ∧ Below n0 W wr) (fun i _ => m - (intOf i).toNat)
      case atStart => exact ⟨0, by omega, rfl, HJ1.out, HB1.out⟩
      case round =>
        clear HJ1 HB1
        obtain ⟨j, hjm, rfl, hj, hbe⟩ := hrel
        have HJJ := Lib.hid hj; have HBJ := Lib.hid hbe
        clear hj hbe
        by_cases hjl : (j : Int) < m
        · clear hjm
          have H2 := Lib.hid (H.out.lie HBJ.out HB0.out HG0.out)
          have e1 := way_there (H2.out.ways s (by omega)) (show j < m by omega)
          have e2 := way_line (H2.out.ways s (by omega)) (show j < m by omega)
          have HVS := Lib.hid (validIn_succ (L s) j)
          have HVL := Lib.hid (validIn_len (L s) j)
          have HJW : Hid (J (validTo L m s ++ validIn (L s) j) (wr.alloc (.cells (lineArr (L s j)) 76))) := HJ.out _ _ _ none HJJ.out (World.grownBy_alloc wr _ none) (fun r e => nomatch e)
          have HBW : Hid (Below n0 W (wr.alloc (.cells (lineArr (L s j)) 76))) := HBJ.out.alloc (Nat.le_trans HN0.out HBJ.out.size) _
          have HLT : Hid ((validTo L m s ++ validIn (L s) j).length < n * m) := by
            have h1 := HLEN.out; have h2 := HSM.out; have h3 := HVL.out
            show List.length _ < _
            rw [List.length_append]
            rw [Nat.succ_mul] at h2
            omega
          generalize hl : L s j = lj at *
          clear hl
          cases hv : lj.v with
          | false =>
            have HVS2 : Hid (validIn (L s) (j + 1) = validIn (L s) j) := by
              show _ = _
              rw [HVS.out, hv]; simp
            have a0 : (lineArr lj)[0]? = some (.bool false) := by rw [la0 lj, hv]
            clear hv
            gi_wp2
            refine ⟨fun _ h => (by cases h), ?_⟩
            gi_wp2
            exact ⟨⟨j + 1, by omega, by rw [Int.natCast_succ], by rw [HVS2.out]; exact HJW.out, HBW.out⟩, by simp [intOf]; omega⟩
          | true =>
            have HVS2 : Hid (validIn (L s) (j + 1) = validIn (L s) j ++ [lj]) := by
              show _ = _
              rw [HVS.out, hv]; simp
            have a0 : (lineArr lj)[0]? = some (.bool true) := by rw [la0 lj, hv]
            clear hv
            obtain ⟨fn, tmps, assign, body, hy, hR⟩ := HY.out _ lj _ HJW.out HLT.out
            gi_wp2
            refine hR.mono ?_
            rintro e W3 (⟨rfl, hJ3, hk3⟩ | ⟨rfl, hJx3⟩)
            · have HJ3 : Hid (J (validTo L m s ++ validIn (L s) (j + 1)) W3) := by
                show J _ _
                rw [HVS2.out, ← List.append_assoc]; exact hJ3
              have HK3 := Lib.hid (HBW.out.trans hk3)
              clear hJ3 hk3
              gi_wp2
              exact ⟨⟨j + 1, by omega, by rw [Int.natCast_succ], HJ3.out, HK3.out⟩, by simp [intOf]; omega⟩
            · gi_wp2
              refine bodyPost_ret (results_none rfl _ _ _) rfl ?_
              exact ⟨⟨_, rfl⟩, .inr ⟨_, trivial, hJx3⟩⟩
        · obtain rfl : j = m := by omega
          have HJ2 : Hid (J (validTo L j (s + 1)) wr) := by
            show J _ _
            rw [validTo_succ]; exact HJJ.out
          gi_wp2
          exact ⟨⟨s + 1, by omega, by rw [Int.natCast_succ], HJ2.out, HBJ.out⟩, by simp [intOf]; omega⟩
    · obtain rfl : s = n := by omega
      gi_wp2
      go_end0
      exact ⟨⟨_, rfl⟩, .inl ⟨_, rfl, HJS.out⟩⟩
theorem cache_lines (p : Option Addr) (w : World) : Calls Try.prog 35 #[.pointer p] w fun e w' => e = .returned (.func (.func 51) #[] #[.pointer (some ⟨w.heap.size, 0, none⟩)]) ∧ w' = w.alloc (.cells #[.pointer p] 25) := by
  go_enter Try.func35, Try.ntmps35
  go_wp2
  go_ret
  exact ⟨rfl, rfl⟩
/-- the lines come one by one -/
theorem lines_stops {w : World} {b sb : Nat} {wb : Nat → Nat} {n m : Nat} {L : Nat → Nat → CLine} {st : Nat → Nat} (h : CacheIs w b sb wb n m L st) (k : Nat) (hk : 1 ≤ k) (pb n0 : Nat) (hb0 : b < n0) (hg0 : ∀ g, CacheOwn sb wb n g → g < n0) (hn0 : n0 ≤ w.heap.size) (hc : w.cell? ⟨pb, 0, none⟩ = some (.pointer (some ⟨b, 0, none⟩))) :
    SeqStopsK Fence.wide k Try.prog 51 #[.pointer (some ⟨pb, 0, none⟩)] (fun x : CLine => #[.agg (lineArr x)]) (Below n0) (fun ys => ys = validTo L m n) (fun _ => True) (n * m) w := fun l J Jx W hW hJ hJx hY h0 => by
  have hlt := World.block_lt_of_cell? w _ hc
  exact lines_1 Fence.wide k trivial rfl hk l pb n0 (h.below hW) hb0 hg0 (Nat.le_trans hn0 hW.size) J Jx hJ hJx hY ((hW.cell (p := ⟨pb, 0, none⟩) hlt).trans hc) h0
theorem CacheIs.lt {w : World} {b sb : Nat} {wb : Nat → Nat} {n m : Nat} {L : Nat → Nat → CLine} {st : Nat → Nat} (h : CacheIs w b sb wb n m L st) : b < w.heap.size ∧ ∀ g, CacheOwn sb wb n g → g < w.heap.size := by
  refine ⟨blk_lt h.at_, ?_⟩
  rintro g (rfl | ⟨s, hs, rfl⟩)
  · exact h.sets.lt
  · exact (h.ways s hs).lt
theorem cell_of_box_l {W : World} {B : Nat} {v : Value} {t : TypeId} (h : W.heap[B]? = some (.cells #[v] t (0, 0))) : W.cell? ⟨B, 0, none⟩ = some v ∧ W.frozen? ⟨B, 0, none⟩ = false := by
  constructor <;> simp [World.cell?, World.frozen?, h]
theorem cell_new_l (W : World) (v : Value) (t : TypeId) : (W.alloc (.cells #[v] t)).cell? ⟨W.heap.size, 0, none⟩ = some v ∧ (W.alloc (.cells #[v] t)).frozen? ⟨W.heap.size, 0, none⟩ = false :=
  cell_of_box_l (World.alloc_heap_new W _)
theorem cell_alloc_l {W : World} {a : Addr} {v : Value} (o : Obj) (h : W.cell? a = some v) : (W.alloc o).cell? a = some v := cell_kept h (World.grownBy_alloc W o none) (fun r e => by cases e)
theorem frozen_alloc_l {W : World} {a : Addr} {v : Value} (o : Obj) (h : W.cell? a = some v) (hf : W.frozen? a = false) : (W.alloc o).frozen? a = false := (frozen_kept h (World.grownBy_alloc W o none) (fun r e => by cases e)).trans hf
set_option maxHeartbeats 4000000 in
theorem cache_len {w : World} {b sb : Nat} {wb : Nat → Nat} {n m : Nat} {L : Nat → Nat → CLine} {st : Nat → Nat} (h : CacheIs w b sb wb n m L st) :
    Calls Try.prog 15 #[.pointer (some ⟨b, 0, none⟩)] w fun e W' => e = .returned (.int .i64 (validTo L m n).length) ∧ Below w.heap.size w W' := by
  refine (callsIn_wide (n := 3)).1 ?_
  refine callsIn_of_wp_marks Try.func15 rfl trivial ?_ rfl
  simp only [Try.ntmps15, List.size_toArray, List.length_cons, List.length_nil, Nat.reduceAdd, Nat.reduceSub, Array.replicate_succ, Array.replicate_zero, List.push_toArray, List.append_toArray, List.nil_append, List.cons_append]
  gi_wp2_with (refine ⟨trivial, ?_⟩; gi_at_call 35; refine (callsIn_wide.2 (cache_lines _ _)).mono ?_; rintro e w' ⟨rfl, rfl⟩)
  have hs := cell_new_l w (.int .i64 0) 3
  have hb := cell_new_l (w.alloc (.cells #[.int .i64 0] 3)) (.pointer (some ⟨b, 0, none⟩)) 25
  rw [World.size_alloc] at hb
  have hB0 : Below w.heap.size w ((w.alloc (.cells #[.int .i64 0] 3)).alloc (.cells #[.pointer (some ⟨b, 0, none⟩)] 25)) := ((Below.refl _ w).alloc (Nat.le_refl _) _).alloc (by simp) _
  have hnm : n * m ≤ 128 := by rcases h.hn with rfl | rfl | rfl | rfl | rfl <;> rcases h.hm with rfl | rfl | rfl <;> omega
  refine wpIn_rangeFunc_ownF rfl (by omega) (gf := 51) (lb := #[.pointer (some ⟨w.heap.size + 1, 0, none⟩)]) rfl trivial (enters_of Try.func51 (by kernel_rfl) rfl)
    (lines_stops (h.below hB0) (3 - 1) (by omega) (w.heap.size + 1) w.heap.size h.lt.1 h.lt.2 (by simp; omega) hb.1) belowK_t (belowK_b (by simp; omega)) (Below.refl _ _) (fun _ => rfl)
    (fun pre W => (W.cell? ⟨w.heap.size, 0, none⟩ = some (.int .i64 (pre.length : Nat)) ∧ W.frozen? ⟨w.heap.size, 0, none⟩ = false) ∧ Below w.heap.size w W)
    (fun _ _ _ => False)
    (OwnFrom.and (Own.from (fun s A B row hs hg hr => ⟨cell_kept hs.1 hg hr, (frozen_kept hs.1 hg hr).trans hs.2⟩) _) (ownFrom_below (Nat.le_refl _) (by simp; omega)))
    (fun _ _ _ _ _ hs _ _ => hs)
    ⟨⟨cell_alloc_l _ hs.1, frozen_alloc_l _ hs.1 hs.2⟩, hB0⟩
    (fun x => { tmps := #[.pointer (some ⟨b, 0, none⟩), undef, .int .i64 0, .pointer (some ⟨w.heap.size, 0, none⟩), .pointer (some ⟨b, 0, none⟩), .func (.func 51) #[] #[.pointer (some ⟨w.heap.size + 1, 0, none⟩)], .agg (lineArr x), undef, undef, undef], defers := [] }) ?assign ?body ?done ?stop
  case assign =>
    intro l x W K hK
    gi_wp2
    first | exact hK | (simpa using hK)
  case body =>
    rintro l pre x W ⟨⟨hc, hf⟩, hB⟩ hlen
    have HC := Lib.hid hc; have HF := Lib.hid hf; have HBB := Lib.hid hB
    have hl2 : ((pre ++ [x]).length : Nat) = pre.length + 1 := by simp
    have HL2 := Lib.hid hl2
    have q1 : (pre.length : Int) < 128 := by omega
    have q2 : (0 : Int) ≤ (pre.length : Int) := by omega
    clear hl2 hB hlen hb hs hB0 hnm
    generalize pre.length = k at *
    gi_wp2
    exact ⟨KeepsOthers.setCell _ _ _, (Below.refl w.heap.size W).setCell (p := ⟨w.heap.size, 0, none⟩) (Nat.le_refl _) _, ⟨by rw [HL2.out, Int.natCast_succ]; exact World.cell?_setCell_same' _ _ _ (by rw [HC.out]; rfl), by rw [World.frozen?_setCell]; exact HF.out⟩, HBB.out.setCell (Nat.le_refl _) _⟩
  case done =>
    rintro D ys W hD rfl ⟨⟨hc, _⟩, hB⟩ hK
    gi_wp2
    refine ⟨by simp, .inl ⟨_, _, rfl, run_takeDeferred hK, ?_⟩⟩
    exact ⟨_, results_tmp rfl _ _ _, rfl, hB.trans (belowK_b (w := w) (Nat.le_refl _) W D _ _ (by simp at hD; omega) hK rfl rfl)⟩
  case stop =>
    rintro D c pre W _ _ h _
    exact h.elim
end Go.Proofs.Ytlcedcjcecahoaa
