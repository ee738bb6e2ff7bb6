/- A nil cache: its lines, Len, Flush, Dirty. No condition. -/
import Derived.Test.YtlcedcjcecahoaaCache8
set_option linter.unusedVariables false
set_option linter.unusedSimpArgs false
namespace Go.Proofs.Ytlcedcjcecahoaa
open Go.RowKit Go.Shelf
set_option maxRecDepth 100000
attribute [local go_sem] Oper.semAt_some
theorem lines_1_nil (F : Fence) (k : Nat) (hF : F.fn 51) (hro : F.round = none) (l pb : Nat) (W : World) (J : List Empty → World → Prop)
    (hc : W.cell? ⟨pb, 0, none⟩ = some (.pointer none)) (h0 : J [] W) :
    CallsIn F k Try.prog 51 #[.func (.yield l) #[] #[], .pointer (some ⟨pb, 0, none⟩)] W fun e W' => (∃ v, e = .returned v) ∧ J [] W' := by
  have H := Lib.hid h0
  clear h0
  refine callsIn_of_wp Try.func51 rfl hF ?_ hro
  simp only [Try.ntmps51, List.size_toArray, List.length_cons, List.length_nil, Nat.reduceAdd, Nat.reduceSub, Array.replicate_succ, Array.replicate_zero, List.push_toArray, List.append_toArray, List.nil_append, List.cons_append]
  gi_wp2
  refine bodyPost_ret (results_none rfl _ _ _) rfl ?_
  exact ⟨⟨_, rfl⟩, H.out⟩
theorem lines_stops_nil (w : World) (k pb n0 : Nat) (hc : w.cell? ⟨pb, 0, none⟩ = some (.pointer none)) :
    SeqStopsK Fence.wide k Try.prog 51 #[.pointer (some ⟨pb, 0, none⟩)] (fun x : Empty => #[]) (Below n0) (fun ys => ys = []) (fun _ => False) 0 w := fun l J Jx W hW hJ hJx hY h0 => by
  have hlt := World.block_lt_of_cell? w _ hc
  exact (lines_1_nil Fence.wide k trivial rfl l pb W J ((hW.cell (p := ⟨pb, 0, none⟩) hlt).trans hc) h0).mono fun e W' q => ⟨q.1, .inl ⟨[], rfl, q.2⟩⟩
set_option maxHeartbeats 4000000 in
theorem len_nil (w : World) :
    Calls Try.prog 15 #[.pointer none] w fun e W' => e = .returned (.int .i64 0) ∧ Below w.heap.size w W' := by
  refine (callsIn_wide (n := 3)).1 ?_
  refine callsIn_of_wp_marks Try.func15 rfl trivial ?_ rfl
  simp only [Try.ntmps15, List.size_toArray, List.length_cons, List.length_nil, Nat.reduceAdd, Nat.reduceSub, Array.replicate_succ, Array.replicate_zero, List.push_toArray, List.append_toArray, List.nil_append, List.cons_append]
  gi_wp2_with (refine ⟨trivial, ?_⟩; gi_at_call 35; refine (callsIn_wide.2 (cache_lines _ _)).mono ?_; rintro e w' ⟨rfl, rfl⟩)
  have hs := cell_new_l w (.int .i64 0) 3
  have hb := cell_new_l (w.alloc (.cells #[.int .i64 0] 3)) (.pointer none) 25
  rw [World.size_alloc] at hb
  have hB0 : Below w.heap.size w ((w.alloc (.cells #[.int .i64 0] 3)).alloc (.cells #[.pointer none] 25)) := ((Below.refl _ w).alloc (Nat.le_refl _) _).alloc (by simp) _
  refine wpIn_rangeFunc_ownF (α := Empty) rfl (by omega) (gf := 51) (lb := #[.pointer (some ⟨w.heap.size + 1, 0, none⟩)]) rfl trivial (enters_of Try.func51 (by kernel_rfl) rfl)
    (lines_stops_nil _ (3 - 1) (w.heap.size + 1) w.heap.size hb.1) belowK_t (belowK_b (by simp; omega)) (Below.refl _ _) (fun x => x.elim)
    (fun pre W => (W.cell? ⟨w.heap.size, 0, none⟩ = some (.int .i64 0) ∧ W.frozen? ⟨w.heap.size, 0, none⟩ = false) ∧ Below w.heap.size w W)
    (fun _ _ _ => False)
    (OwnFrom.and (Own.from (fun s A B row hs hg hr => ⟨cell_kept hs.1 hg hr, (frozen_kept hs.1 hg hr).trans hs.2⟩) _) (ownFrom_below (Nat.le_refl _) (by simp; omega)))
    (fun _ _ _ _ _ hs _ _ => hs)
    ⟨⟨cell_alloc_l _ hs.1, frozen_alloc_l _ hs.1 hs.2⟩, hB0⟩
    (fun x => x.elim) ?assign ?body ?done ?stop
  case assign => exact fun l x => x.elim
  case body => exact fun l pre x => x.elim
  case done =>
    rintro D ys W hD rfl ⟨⟨hc, _⟩, hB⟩ hK
    gi_wp2
    refine ⟨by simp, .inl ⟨_, _, rfl, run_takeDeferred hK, ?_⟩⟩
    exact ⟨_, results_tmp rfl _ _ _, rfl, hB.trans (belowK_b (w := w) (Nat.le_refl _) W D _ _ (by simp at hD; omega) hK rfl rfl)⟩
  case stop =>
    rintro D c pre W _ _ h _
    exact h.elim
theorem flush_nil (w : World) : Calls Try.prog 23 #[.pointer none] w fun e W' => e = .returned (.int .i64 0) ∧ Below w.heap.size w W' := by
  go_enter Try.func23, Try.ntmps23
  go_wp2_with fail
  refine (len_nil w).mono ?_
  rintro e w2 ⟨rfl, hb⟩
  have HB := Lib.hid hb
  clear hb
  go_wp2_with fail
  go_ret
  exact ⟨rfl, HB.out⟩
/-! sorting nothing -/
theorem bits_len64 (w : World) : Calls Try.prog 72 #[.int .u64 0] w fun e W' => e = .returned (.int .i64 0) ∧ w = W' := by
  go_enter Try.func72, Try.ntmps72
  go_wp2
  go_ret
  exact ⟨ret_int (by decide +kernel), rfl⟩
theorem bits_len0 (w : World) : Calls Try.prog 53 #[.int .u64 0] w fun e W' => e = .returned (.int .i64 0) ∧ w = W' := by
  go_enter Try.func53, Try.ntmps53
  go_wp2_with fail
  refine (bits_len64 w).mono ?_
  rintro e w' ⟨rfl, rfl⟩
  go_wp2_with fail
  go_ret
  exact ⟨rfl, rfl⟩
theorem insert_nil (w : World) (F : Value) : Calls Try.prog 63 #[.slice none 0 0, .int .i64 0, .int .i64 0, F] w fun e W' => e = .returned (.tuple #[]) ∧ w = W' := by
  go_enter Try.func63, Try.ntmps63
  go_wp2
  go_rounds 1
  go_end0
  exact ⟨rfl, rfl⟩
theorem pdq_nil (w : World) (F : Value) : Calls Try.prog 52 #[.slice none 0 0, .int .i64 0, .int .i64 0, .int .i64 0, F] w fun e W' => e = .returned (.tuple #[]) ∧ w = W' := by
  go_enter Try.func52, Try.ntmps52
  go_wp2_with fail
  refine wp_loop_rounds 1 ?_
  rw [rounds_succ]
  go_wp2_with fail
  refine (insert_nil w F).mono ?_
  rintro e w' ⟨rfl, rfl⟩
  go_wp2_with fail
  exact bodyPost_ret (results_none rfl _ _ _) rfl ⟨rfl, rfl⟩
theorem sort_nil (w : World) (F : Value) : Calls Try.prog 36 #[.slice none 0 0, F] w fun e W' => e = .returned (.tuple #[]) ∧ w = W' := by
  go_enter Try.func36, Try.ntmps36
  go_wp2_with fail
  refine (bits_len0 w).mono ?_
  rintro e w' ⟨rfl, rfl⟩
  go_wp2_with fail
  refine (pdq_nil w F).mono ?_
  rintro e w' ⟨rfl, rfl⟩
  go_wp2_with fail
  go_end0
  exact ⟨rfl, rfl⟩
set_option maxHeartbeats 4000000 in
theorem dirty_nil (w : World) :
    Calls Try.prog 19 #[.pointer none] w fun e W' => (∃ q, e = .returned (.func (.func 38) #[] #[.pointer (some ⟨q, 0, none⟩)]) ∧ W'.cell? ⟨q, 0, none⟩ = some (.slice none 0 0)) ∧ Below w.heap.size w W' := by
  refine (callsIn_wide (n := 3)).1 ?_
  refine callsIn_of_wp_marks Try.func19 rfl trivial ?_ rfl
  simp only [Try.ntmps19, List.size_toArray, List.length_cons, List.length_nil, Nat.reduceAdd, Nat.reduceSub, Array.replicate_succ, Array.replicate_zero, List.push_toArray, List.append_toArray, List.nil_append, List.cons_append]
  gi_wp2_with (refine ⟨trivial, ?_⟩; gi_at_call 35; refine (callsIn_wide.2 (cache_lines _ _)).mono ?_; rintro e w' ⟨rfl, rfl⟩)
  have hs := cell_new_l w (.slice none 0 0) 63
  have hb := cell_new_l (w.alloc (.cells #[.slice none 0 0] 63)) (.pointer none) 25
  rw [World.size_alloc] at hb
  have hB0 : Below w.heap.size w ((w.alloc (.cells #[.slice none 0 0] 63)).alloc (.cells #[.pointer none] 25)) := ((Below.refl _ w).alloc (Nat.le_refl _) _).alloc (by simp) _
  refine wpIn_rangeFunc_ownF (α := Empty) rfl (by omega) (gf := 51) (lb := #[.pointer (some ⟨w.heap.size + 1, 0, none⟩)]) rfl trivial (enters_of Try.func51 (by kernel_rfl) rfl)
    (lines_stops_nil _ (3 - 1) (w.heap.size + 1) w.heap.size hb.1) belowK_t (belowK_b (by simp; omega)) (Below.refl _ _) (fun x => x.elim)
    (fun pre W => (W.cell? ⟨w.heap.size, 0, none⟩ = some (.slice none 0 0) ∧ W.frozen? ⟨w.heap.size, 0, none⟩ = false) ∧ Below w.heap.size w W)
    (fun _ _ _ => False)
    (OwnFrom.and (Own.from (fun s A B row hs hg hr => ⟨cell_kept hs.1 hg hr, (frozen_kept hs.1 hg hr).trans hs.2⟩) _) (ownFrom_below (Nat.le_refl _) (by simp; omega)))
    (fun _ _ _ _ _ hs _ _ => hs)
    ⟨⟨cell_alloc_l _ hs.1, frozen_alloc_l _ hs.1 hs.2⟩, hB0⟩
    (fun x => x.elim) ?assign ?body ?done ?stop
  case assign => exact fun l x => x.elim
  case body => exact fun l pre x => x.elim
  case done =>
    rintro D ys W hD rfl ⟨⟨hc, _⟩, hB⟩ hK
    gi_wp2_with (refine ⟨trivial, ?_⟩; gi_at_call 36; refine (callsIn_wide.2 (sort_nil _ _)).mono ?_; rintro e w' ⟨rfl, rfl⟩)
    refine ⟨by simp, .inl ⟨_, _, rfl, run_takeDeferred hK, ?_⟩⟩
    exact ⟨_, results_tmp rfl _ _ _, ⟨w.heap.size, rfl, cell_kept hc (grownBy_putObj' _ D (.deferred none)) (fun r e => by cases e; exact ⟨_, hK, rfl⟩)⟩, hB.trans (belowK_b (w := w) (Nat.le_refl _) W D _ _ (by simp at hD; omega) hK rfl rfl)⟩
  case stop =>
    rintro D c pre W _ _ h _
    exact h.elim
end Go.Proofs.Ytlcedcjcecahoaa
