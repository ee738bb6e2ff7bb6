/- The law CacheNil, walked. No condition. -/
import Derived.Test.YtlcedcjcecahoaaCache9
set_option linter.unusedVariables false
set_option linter.unusedSimpArgs false
namespace Go.Proofs.Ytlcedcjcecahoaa
open Go.RowKit Go.Shelf
set_option maxRecDepth 100000
attribute [local go_sem] Oper.semAt_some
theorem dirty_2_nil (F : Fence) (k : Nat) (hF : F.fn 38) (hro : F.round = none) (l q : Nat) (W : World) (J : List Empty → World → Prop)
    (hc : W.cell? ⟨q, 0, none⟩ = some (.slice none 0 0)) (h0 : J [] W) :
    CallsIn F k Try.prog 38 #[.func (.yield l) #[] #[], .pointer (some ⟨q, 0, none⟩)] W fun e W' => (∃ v, e = .returned v) ∧ J [] W' := by
  have H := Lib.hid h0
  clear h0
  refine callsIn_of_wp Try.func38 rfl hF ?_ hro
  simp only [Try.ntmps38, List.size_toArray, List.length_cons, List.length_nil, Nat.reduceAdd, Nat.reduceSub, Array.replicate_succ, Array.replicate_zero, List.push_toArray, List.append_toArray, List.nil_append, List.cons_append]
  gi_wp2
  gi_loopw [7] (fun i wr => i = .int .i64 0 ∧ J [] wr) (fun _ _ => 0)
  case atStart => exact ⟨rfl, H.out⟩
  case round =>
    obtain ⟨rfl, hJs⟩ := hrel
    have HJ := Lib.hid hJs
    clear hJs
    gi_wp2
    go_end0
    exact ⟨⟨_, rfl⟩, HJ.out⟩
theorem dirty_stops_nil (w : World) (k q n0 : Nat) (hc : w.cell? ⟨q, 0, none⟩ = some (.slice none 0 0)) :
    SeqStopsK Fence.wide k Try.prog 38 #[.pointer (some ⟨q, 0, none⟩)] (fun x : Empty => #[]) (Below n0) (fun ys => ys = []) (fun _ => False) 0 w := fun l J Jx W hW hJ hJx hY h0 => by
  have hlt := World.block_lt_of_cell? w _ hc
  exact (dirty_2_nil Fence.wide k trivial rfl l q W J ((hW.cell (p := ⟨q, 0, none⟩) hlt).trans hc) h0).mono fun e W' z => ⟨z.1, .inl ⟨[], rfl, z.2⟩⟩
set_option maxHeartbeats 8000000 in
theorem nil_walk (w : World) (x k v : Int) (a : Option Addr) (l c : Nat) :
    Calls Try.prog 7 #[.int .u64 x, .int .i64 k, .int .u64 v, .slice a l c] w fun e W' => e = .returned (.bool true) ∧ Below w.heap.size w W' := by
  refine (callsIn_wide (n := 5)).1 ?_
  refine callsIn_of_wp_marks Try.func7 rfl trivial ?_ rfl
  simp only [Try.ntmps7, List.size_toArray, List.length_cons, List.length_nil, Nat.reduceAdd, Nat.reduceSub, Array.replicate_succ, Array.replicate_zero, List.push_toArray, List.append_toArray, List.nil_append, List.cons_append]
  have hs := cell_new_l w (.bool false) 4
  have HS := Lib.hid hs
  have HW1 : Hid (Below w.heap.size w (w.alloc (.cells #[.bool false] 4))) := (Below.refl _ w).alloc (Nat.le_refl _) _
  have HB0 : Hid (Below (w.heap.size + 1) (w.alloc (.cells #[.bool false] 4)) (w.alloc (.cells #[.bool false] 4))) := Below.refl _ _
  have hsz : (w.alloc (.cells #[.bool false] 4)).heap.size = w.heap.size + 1 := by simp
  have HSZ := Lib.hid hsz
  gi_wp2_with fail
  clear hs hsz
  generalize w.alloc (.cells #[.bool false] 4) = w1 at *
  refine ⟨trivial, ?_⟩
  refine (callsIn_wide.2 (read_nil x k w1)).mono ?_
  rintro e w2 ⟨rfl, hb⟩
  have HB2 : Hid (Below (w.heap.size + 1) w1 w2) := by show Below _ _ _; rw [← HSZ.out]; exact hb
  clear hb
  gi_wp2_with fail
  refine ⟨trivial, ?_⟩
  refine (callsIn_wide.2 (fill_nil x a l c w2)).mono ?_
  rintro e w3 ⟨rfl, hb⟩
  have HB3 : Hid (Below (w.heap.size + 1) w1 w3) := HB2.out.trans (hb.mono (by rw [← HSZ.out]; exact HB2.out.size))
  clear hb
  gi_wp2_with fail
  refine ⟨trivial, ?_⟩
  refine (callsIn_wide.2 (clean_nil x w3)).mono ?_
  rintro e w4 ⟨rfl, hb⟩
  have HB4 : Hid (Below (w.heap.size + 1) w1 w4) := HB3.out.trans (hb.mono (by rw [← HSZ.out]; exact HB3.out.size))
  clear hb
  gi_wp2_with fail
  refine ⟨trivial, ?_⟩
  refine (callsIn_wide.2 (dirty_nil w4)).mono ?_
  rintro e w5 ⟨⟨q, rfl, hq⟩, hb⟩
  have HQ := Lib.hid hq
  have heq : ∀ wq, (binOp BinOp.eql 49 (.func (.func 38) #[] #[.pointer (some ⟨q, 0, none⟩)]) .nilFunc).run Try.prog wq = .ok (.bool false) wq := fun wq => by kernel_rfl
  have HB5 : Hid (Below (w.heap.size + 1) w1 w5) := HB4.out.trans (hb.mono (by rw [← HSZ.out]; exact HB4.out.size))
  clear hb hq
  gi_wp2_with fail
  refine ⟨trivial, ?_⟩
  refine (callsIn_wide.2 (cache_awake w5)).mono ?_
  rintro e w6 ⟨rfl, hb⟩
  have HB6 : Hid (Below (w.heap.size + 1) w1 w6) := HB5.out.trans (hb.mono (by rw [← HSZ.out]; exact HB5.out.size))
  have HQ6 : Hid (w6.cell? ⟨q, 0, none⟩ = some (.slice none 0 0)) := (hb.cell (p := ⟨q, 0, none⟩) (World.block_lt_of_cell? _ _ HQ.out)).trans HQ.out
  clear hb
  gi_wp2_with fail
  have hc0 : w6.cell? ⟨w.heap.size, 0, none⟩ = some (.bool false) := (HB6.out.cell (p := ⟨w.heap.size, 0, none⟩) (Nat.lt_succ_self _)).trans HS.out.1
  have hf0 : w6.frozen? ⟨w.heap.size, 0, none⟩ = false := (HB6.out.frozen (p := ⟨w.heap.size, 0, none⟩) (Nat.lt_succ_self _)).trans HS.out.2
  have hB6 : Below w.heap.size w w6 := HW1.out.trans (HB6.out.mono (Nat.le_succ _))
  have hlt6 : w.heap.size < w6.heap.size := by have := HB6.out.size; have := HSZ.out; omega
  refine wpIn_rangeFunc_ownF (α := Empty) rfl (by omega) (gf := 38) (lb := #[.pointer (some ⟨q, 0, none⟩)]) rfl trivial (enters_of Try.func38 (by kernel_rfl) rfl)
    (dirty_stops_nil _ (5 - 1) q w.heap.size HQ6.out) belowK_t (belowK_b (by omega)) (Below.refl _ _) (fun x => x.elim)
    (fun pre W => (W.cell? ⟨w.heap.size, 0, none⟩ = some (.bool false) ∧ W.frozen? ⟨w.heap.size, 0, none⟩ = false) ∧ Below w.heap.size w W)
    (fun _ _ _ => False)
    (OwnFrom.and (Own.from (fun s A B row hs hg hr => ⟨cell_kept hs.1 hg hr, (frozen_kept hs.1 hg hr).trans hs.2⟩) _) (ownFrom_below (Nat.le_refl _) (by omega)))
    (fun _ _ _ _ _ hs _ _ => hs)
    ⟨⟨hc0, hf0⟩, hB6⟩
    (fun x => x.elim) ?assign ?body ?done ?stop
  case assign => exact fun l x => x.elim
  case body => exact fun l pre x => x.elim
  case done =>
    rintro D ys W hD rfl ⟨⟨hc, hf⟩, hB⟩ hK
    have HC := Lib.hid hc; have HF := Lib.hid hf; have HBW := Lib.hid hB; have HK := Lib.hid hK
    have HD : Hid (w.heap.size < D) := by show _ < _; omega
    clear hc hf hB hK hD hc0 hf0 hB6 hlt6
    have HB6' : Hid (Below W.heap.size W W) := Below.refl _ _
    gi_wp2_with fail
    refine ⟨trivial, ?_⟩
    refine (callsIn_wide.2 (look_nil x W)).mono ?_
    rintro e w7 ⟨rfl, hb⟩
    have HC7 : Hid (Below W.heap.size W w7) := HB6'.out.trans (hb.mono HB6'.out.size)
    clear hb
    gi_wp2_with fail
    refine ⟨trivial, ?_⟩
    refine (callsIn_wide.2 (write_nil x k v w7)).mono ?_
    rintro e w8 ⟨rfl, hb⟩
    have HC8 : Hid (Below W.heap.size W w8) := HC7.out.trans (hb.mono HC7.out.size)
    clear hb
    gi_wp2_with fail
    refine ⟨trivial, ?_⟩
    refine (callsIn_wide.2 (drop_nil x w8)).mono ?_
    rintro e w9 ⟨rfl, hb⟩
    have HC9 : Hid (Below W.heap.size W w9) := HC8.out.trans (hb.mono HC8.out.size)
    clear hb
    gi_wp2_with fail
    refine ⟨trivial, ?_⟩
    refine (callsIn_wide.2 (flush_nil w9)).mono ?_
    rintro e w10 ⟨rfl, hb⟩
    have HC10 : Hid (Below W.heap.size W w10) := HC9.out.trans (hb.mono HC9.out.size)
    clear hb
    gi_wp2_with fail
    refine ⟨trivial, ?_⟩
    refine (callsIn_wide.2 (len_nil w10)).mono ?_
    rintro e w11 ⟨rfl, hb⟩
    have HC11 : Hid (Below W.heap.size W w11) := HC10.out.trans (hb.mono HC10.out.size)
    clear hb
    have hlW : w.heap.size < W.heap.size := World.block_lt_of_cell? W _ HC.out
    have hc11 : w11.cell? ⟨w.heap.size, 0, none⟩ = some (.bool false) := (HC11.out.cell (p := ⟨w.heap.size, 0, none⟩) hlW).trans HC.out
    have hf11 : w11.frozen? ⟨w.heap.size, 0, none⟩ = false := (HC11.out.frozen (p := ⟨w.heap.size, 0, none⟩) hlW).trans HF.out
    gi_wp2_with fail
    have hDW : D < W.heap.size := (Array.getElem?_eq_some_iff.1 HK.out).1
    have hK' : (w11.setCell ⟨w.heap.size, 0, none⟩ (.bool true)).heap[D]? = some (.deferred (some [])) := by
      rw [blk_set_ne _ _ (by have := HD.out; simp; omega)]
      exact (HC11.out.block D hDW).trans HK.out
    have hcT : (w11.setCell ⟨w.heap.size, 0, none⟩ (.bool true)).cell? ⟨w.heap.size, 0, none⟩ = some (.bool true) := by rw [cell_set]; simp [hc11]
    refine ⟨by simp, .inl ⟨_, _, rfl, run_takeDeferred hK', ?_⟩⟩
    have hres := cell_kept hcT (grownBy_putObj' _ D (.deferred none)) (fun r e => by cases e; exact ⟨_, hK', rfl⟩)
    refine ⟨_, by simp [results, asAddr, loadVar, isAgg, Try.underlying4, hres, go_sem], rfl, ?_⟩
    have hB1 : Below w.heap.size w (w11.setCell ⟨w.heap.size, 0, none⟩ (.bool true)) := (HBW.out.trans (HC11.out.mono (Nat.le_of_lt hlW))).setCell (Nat.le_refl _) _
    exact hB1.trans (belowK_b (w := w) (Nat.le_refl _) _ D _ _ (Nat.le_of_lt HD.out) hK' rfl rfl)
  case stop =>
    rintro D c pre W _ _ h _
    exact h.elim
theorem cache_nil_walk (w : World) (a0 : Int) (w0 : (Lit.int .u64 a0).wf = true) (a1 : Int) (w1 : (Lit.int .i64 a1).wf = true) (a2 : Int) (w2 : (Lit.int .u64 a2).wf = true) (b : Option Addr) (l c : Nat) (z : Nat → Int) (h : ∀ i, (Lit.int .u8 (z i)).wf = true) (r : ArgRow w b l c (fun i => .int .u8 (z i))) (m : c * 1 ≤ 140737488351232) :
    Calls Try.prog 7 #[.int .u64 a0, .int .i64 a1, .int .u64 a2, .slice b l c] w fun e w' => e = .returned (.bool true) ∧ Below w.heap.size w w' := nil_walk w a0 a1 a2 b l c
end Go.Proofs.Ytlcedcjcecahoaa
