/- The reference's New. No condition. What the laws' made gives: a machine and the reference's, alike. No condition. -/
import Derived.Test.YtkogjjeoihnjpaaGreatPack37
import Derived.Laws.CopyOwn
import Derived.Deep.OwnRows
import Derived.StillTailTactics
import Derived.BigRegion
import Derived.Deep.RegionWith
import Derived.Deep.RegionHeld3
import Derived.Deep.QuietTactic
import Derived.BigQuiet
import Derived.Deep.DeepFit
import Derived.Deep.DeepMust
import Derived.Handy
import Derived.Test.YtkogjjeoihnjpaaGreatPack36
section
set_option linter.unusedVariables false
set_option linter.unusedSimpArgs false
namespace Go.Proofs.YtkogjjeoihnjpaaGreat
open Go.RowKit Sx
set_option maxRecDepth 100000
/-- bytes copied into the midst of a row -/
theorem wpList_copy_row {P : Program} {w : World} {ops : Array Oper} {rest : List Oper} {o : Oper} {a : Act} {Q : Exit → Act → World → Prop} (hgd : o.guard = none) (d s : Operand) (dT sT : TypeId)
    (ho : o.op = .call { callee := .builtin .copy, args := #[d, s], argTypes := #[dT, sT] }) (elem : TypeId) (hu : P.underlying dT = some (.slice elem)) (hsz : (P.info? elem).map (·.size) = some 1)
    (g off dLen dCap : Nat) (sp : Option Addr) (sLen sCap : Nat) (hd : a.eval d = .slice (some ⟨g, off, none⟩) dLen dCap) (hs : a.eval s = .slice sp sLen sCap)
    (t : TypeId) (n : Nat) (f : Nat → Value) (hg : Hid (w.rowIs g t n f)) (k : Nat) (hk : k = Nat.min sLen dLen) (V : Nat → Value) (hsrc : Hid (IsRow w sp k V)) (hfit : off + k ≤ n) (h1 : ∀ i, i < k → (V i).oneCell' = true) (hk0 : 0 < k)
    (h : ∀ w', Hid (w'.rowIs g t n (fun i => if off ≤ i ∧ i < off + k then V (i - off) else f i)) → Hid (Turned (· = g) w w') → wpList P ops Q rest (a.put o.dst (goInt k)) w') :
    wpList P ops Q (o :: rest) a w := by
  obtain ⟨cur, hc, hsz2, hf⟩ := hg.out
  obtain ⟨sb, so, rfl, hlt, hcell⟩ := hsrc.out hk0
  have hlen : ((List.range k).map V).length = k := by simp
  refine wpList_copy_own hgd d s dT sT ho elem hu hsz g off dLen dCap ⟨sb, so, none⟩ sLen sCap hd hs cur t hc ((List.range k).map V) (by rw [hlen]; exact hk) ?_ (by rw [hlen]; omega) ?_ ?_
  · intro j v hv
    have hj : j < k := by have := (List.getElem?_eq_some_iff.1 hv).1; omega
    simp [hj] at hv
    rw [addr_add, hcell j hj, hv]
  · intro v hv
    simp only [List.mem_map, List.mem_range] at hv
    obtain ⟨i, hi, rfl⟩ := hv
    exact h1 i hi
  · rw [hlen]
    refine h _ (show World.rowIs _ _ _ _ _ from ⟨_, setRow_heap w g _ _ t _ hc, ?_, ?_⟩) (show Turned _ _ _ from ⟨rfl, rfl, rfl, by simp [World.setRow], fun q hq hn => setRow_other w g q _ hn⟩)
    · simp [hsz2]; omega
    · intro i hi
      have hi2 : i < cur.size := by omega
      simp only [List.getElem?_toArray]
      by_cases h1 : i < off
      · rw [List.getElem?_append_left (by simp; omega), if_neg (by omega), List.getElem?_take_of_lt h1, Array.getElem?_toList]
        exact hf i hi
      · rw [List.getElem?_append_right (by simp; omega)]
        have hl : (cur.toList.take off).length = off := by simp; omega
        rw [hl]
        by_cases h2 : i < off + k
        · rw [List.getElem?_append_left (by rw [hlen]; omega), if_pos (by omega)]
          simp [show i - off < k by omega]
        · rw [List.getElem?_append_right (by rw [hlen]; omega), if_neg (by omega), hlen, List.getElem?_drop, Array.getElem?_toList, show off + k + (i - off - k) = i by omega]
          exact hf i hi

theorem copy_zero (d : Addr) (dl dc : Nat) (a : Option Addr) (c : Nat) (w : World) : (Builtin.copy_ #[22, 22] 3 #[.slice (some d) dl dc, .slice a 0 c]).run Tryz.prog w = .ok (goInt 0) w := by
  cases a <;> kernel_rfl
/-- the reference's machine: its pages, where its bytes lie, its hart -/
def refCells (n sb : Nat) (h : List Int) : Array Value := ([Value.int .i64 n, .slice (some ⟨sb, 0, none⟩) (n * 4096) (n * 4096)] ++ cksV hartC h).toArray
theorem ref_arr (n sb : Nat) : (Array.foldl (fun cs x => cs.setIfInBounds (2 + x.snd) x.fst) ((Tryz.zeroCells62.setIfInBounds 0 (Value.int .i64 n)).setIfInBounds 1 (Value.slice (some ⟨sb, 0, none⟩) (n * 4096) (n * 4096))) hart0.zipIdx 0 66) = refCells n sb hart0L := by kernel_rfl
/-- a reference's machine that is made -/
def RefNew (w : World) (n : Nat) (l : List Int) (m : Nat) (e : Ending) (w' : World) : Prop :=
  ∃ q sb, e = .returned (.tuple #[.pointer (some ⟨q, 0, none⟩), .int .i64 0]) ∧ w'.heap[q]? = some (.cells (refCells n sb hart0L) 62 (0, 0)) ∧ w'.rowIs sb 5 (n * 4096) (fun i => .int .u8 (if i < m then l.getD i 0 else 0)) ∧ w.heap.size ≤ q ∧ w.heap.size ≤ sb ∧ q ≠ sb ∧ Below w.heap.size w w'
theorem row_made (n : Nat) (w : World) (b : Nat) (t : TypeId) (h : w.heap[b]? = some (.cells (madeCells #[.int .u8 0] (n * 4096)) t (0, 0))) : w.rowIs b t (n * 4096) (fun _ => .int .u8 0) := ⟨_, h, by rw [size_madeCells], fun i hi => by
  have := toList_madeCells_one (.int .u8 0) (n * 4096)
  rw [← Array.getElem?_toList, this]
  simp [hi]⟩
set_option maxHeartbeats 4000000 in
theorem ref24_new (n : Nat) (h4 : 4 ≤ n) (h256 : n ≤ 256) (a : Option Addr) (m c : Nat) (hm : (m : Int) ≤ (n : Int) * 4096) (w : World) (l : List Int) (hl : IsB w a m l) (hin : ∀ b o s, a = some ⟨b, o, s⟩ → b < w.heap.size) (hpos : 0 < m) :
    Calls Tryz.prog 37 #[.int .i64 n, .slice a m c] w (RefNew w n l m) := by
  have hmk : ∀ wq, (Instr.makeSlice 22 (.int .i64 (IntKind.i64.wrap ((n : Int) * 4096))) (.int .i64 (IntKind.i64.wrap ((n : Int) * 4096)))).run Tryz.prog wq = .ok (.slice (some ⟨wq.heap.size, 0, none⟩) (n * 4096) (n * 4096)) (wq.alloc (.cells (madeCells #[.int .u8 0] (n * 4096)) 5)) := fun wq => by
    have := run_make_row' (P := Tryz.prog) 22 5 (.int .u8 0) 1 Tryz.underlying22 A_info5 rfl .i64 .i64 (n * 4096) (by omega) (by omega) wq
    rw [show ((n * 4096 : Nat) : Int) = IntKind.i64.wrap ((n : Int) * 4096) by rw [IntKind.wrap_i64]; omega] at this
    exact this
  have HSRC : Hid (∀ W, Below w.heap.size w W → IsRow W a m (fun i => .int .u8 (l.getD i 0))) := fun W hb _ => by
    rcases (isB_turned hl (Turned.of_below hb (fun _ => False)) (fun _ _ _ _ e => e)).cell with ⟨_, h0⟩ | ⟨b, o, rfl, hc⟩
    · omega
    · exact ⟨b, o, rfl, Nat.lt_of_lt_of_le (hin b o none rfl) hb.size, hc⟩
  have HMIN : Hid (m = Nat.min m (n * 4096)) := by show m = min m (n * 4096); omega
  have HFIT : Hid (0 + m ≤ n * 4096) := by show _ ≤ _; omega
  have hsz : hart0.size = 66 := by kernel_rfl
  clear hl hin
  go_enter Tryz.func37, Tryz.ntmps37
  go_wp2_with fail
  refine wp_region_held_drew (S := fun wq => True) (by kernel_rfl) trivial (fun hH => ?_)
  refine wpAnyH_take (i := 0) (oi := ⟨some 18, _, _, _, _, _⟩) (v := ?_) rfl (by kernel_rfl) (by kernel_rfl) (by kernel_rfl) (fun _ _ _ h => h) (Or.inl ⟨by kernel_rfl, ?_⟩) hH ?_
  rotate_left 1
  · intro wq hq;  first | (go_simp; done) | (go_simp; with_reducible rfl)
  simp only [Act.put, List.setIfInBounds_toArray, List.set_cons_zero, List.set_cons_succ]
  refine wpAnyH_take (i := 1) (oi := ⟨some 19, _, _, _, _, _⟩) (v := ?_) rfl (by kernel_rfl) (by kernel_rfl) (by kernel_rfl) (fun _ _ _ h => h) (Or.inl ⟨by kernel_rfl, ?_⟩) hH ?_
  rotate_left 1
  · intro wq hq;  first | (go_simp; done) | (go_simp; with_reducible rfl)
  simp only [Act.put, List.setIfInBounds_toArray, List.set_cons_zero, List.set_cons_succ]
  refine wpAnyH_take (i := 2) (oi := ⟨some 20, _, _, _, _, _⟩) (v := ?_) rfl (by kernel_rfl) (by kernel_rfl) (by kernel_rfl) (fun _ _ _ h => h) (Or.inl ⟨by kernel_rfl, ?_⟩) hH ?_
  rotate_left 1
  · intro wq hq;  first | (go_simp; done) | (go_simp; with_reducible rfl)
  simp only [Act.put, List.setIfInBounds_toArray, List.set_cons_zero, List.set_cons_succ]
  refine wpAnyH_ready (rs := [3, 4]) (by kernel_rfl) (by simp) (AllReadyH.cons (o := ⟨some 21, _, _, _, _, _⟩) rfl (fun K hK => ?_) (AllReadyH.cons (o := ⟨some 22, _, _, _, _, _⟩) rfl (fun K hK => ?_) (AllReadyH.nil)))
  · go_simp
    refine hK.out _ _ trivial (fun hH => ?_)
    clear hK K
    try simp only [Act.put, List.setIfInBounds_toArray, List.set_cons_zero, List.set_cons_succ]
    refine wpAnyH_ready (rs := [4]) (by kernel_rfl) (by simp) (AllReadyH.cons (o := ⟨some 22, _, _, _, _, _⟩) rfl (fun K hK => ?_) (AllReadyH.nil))
    go_simp
    refine (ref_reset _).mono ?_
    rintro e w2 ⟨rfl, hb2⟩
    have HB2 := Lib.hid hb2
    clear hb2
    go_simp
    refine hK.out _ _ trivial (fun hH => ?_)
    clear hK K
    try simp only [Act.put, List.setIfInBounds_toArray, List.set_cons_zero, List.set_cons_succ]
    refine wpAnyH_take (i := 5) (oi := ⟨some 23, _, _, _, _, _⟩) (v := ?_) rfl (by kernel_rfl) (by kernel_rfl) (by kernel_rfl) (fun _ _ _ h => h) (Or.inl ⟨by kernel_rfl, ?_⟩) hH ?_
    rotate_left 1
    · intro wq hq;  first | (go_simp; done) | (go_simp; with_reducible rfl)
    simp only [Act.put, List.setIfInBounds_toArray, List.set_cons_zero, List.set_cons_succ]
    refine wpAnyH_ready (rs := [6]) (by kernel_rfl) (by simp) (AllReadyH.cons (o := ⟨some 24, _, _, _, _, _⟩) rfl (fun K hK => ?_) (AllReadyH.nil))
    go_simp
    refine hK.out _ _ trivial (fun hH => ?_)
    clear hK K
    try simp only [Act.put, List.setIfInBounds_toArray, List.set_cons_zero, List.set_cons_succ]
    refine wpAnyH_take (i := 7) (oi := ⟨some 6, _, _, _, _, _⟩) (v := ?_) rfl (by kernel_rfl) (by kernel_rfl) (by kernel_rfl) (fun _ _ _ h => h) (Or.inl ⟨by kernel_rfl, ?_⟩) hH ?_
    rotate_left 1
    · intro wq hq;  first | (go_simp; done) | (go_simp; with_reducible rfl)
    simp only [Act.put, List.setIfInBounds_toArray, List.set_cons_zero, List.set_cons_succ]
    refine wpAnyH_done (by kernel_rfl) ?_ _
    clear hH
    rw [ref_arr]
    have HW2 : Below w.heap.size w w2 := below_then ((Below.refl _ _).alloc (Nat.le_refl _) _).drew HB2.out (by simp)
    have hsz2 := HB2.out.size
    simp at hsz2
    have HQ : Hid ((w2.alloc (.cells (refCells n (w.heap.size) hart0L) 62)).heap[w2.heap.size]? = some (.cells (refCells n (w.heap.size) hart0L) 62 (0, 0))) := blk_alloc _ _
    have HS : Hid ((w2.alloc (.cells (refCells n (w.heap.size) hart0L) 62)).rowIs (w.heap.size) 5 (n * 4096) (fun _ => .int .u8 0)) := row_made n _ _ _ (by rw [blk_alloc_old _ _ _ (by omega), HB2.out.block _ (by simp)]; exact blk_alloc w _)
    have HB : Hid (Below w.heap.size w (w2.alloc (.cells (refCells n (w.heap.size) hart0L) 62))) := HW2.alloc (by omega) _
    have HQS : Hid (w.heap.size ≤ w2.heap.size ∧ w.heap.size ≤ w.heap.size ∧ w2.heap.size ≠ w.heap.size) := ⟨by omega, by omega, by omega⟩
    clear HW2 hsz2 HB2
    generalize w2.alloc (.cells (refCells n (w.heap.size) hart0L) 62) = W3 at *
    have c1 : W3.cell? ⟨w2.heap.size, 1, none⟩ = some (.slice (some ⟨w.heap.size, 0, none⟩) (n * 4096) (n * 4096)) := blk_cell HQ.out 1
    have HROW : Hid (IsRow W3 a m (fun i => .int .u8 (l.getD i 0))) := HSRC.out W3 HB.out
    go_wp2_with ((with_reducible refine wpList_copy_row rfl (.tmp 28) (.tmp 29) 22 22 rfl 5 Tryz.underlying22 (by kernel_rfl) (w.heap.size) 0 (n * 4096) (n * 4096) a m c rfl rfl 5 (n * 4096) (fun _ => .int .u8 0) HS m HMIN.out (fun i => .int .u8 (l.getD i 0)) HROW HFIT.out (fun _ _ => rfl) hpos ?_); intro w6 hr6 ht6)
    have HB6 : Hid (Below w.heap.size w w6) := HB.out.trans (ht6.out.below HB.out.size (by rintro _ rfl; exact HQS.out.2.1))
    go_ret2
    refine ⟨w2.heap.size, w.heap.size, rfl, (ht6.out.block _ (blk_lt HQ.out) HQS.out.2.2).trans HQ.out, hr6.out.congr fun i hi => ?_, HQS.out.1, HQS.out.2.1, HQS.out.2.2, HB6.out⟩
    by_cases h : i < m
    · rw [if_pos h, if_pos ⟨Nat.zero_le _, by omega⟩, Nat.sub_zero]
    · rw [if_neg h, if_neg (by omega)]
  · go_simp
    refine (ref_reset _).mono ?_
    rintro e w2 ⟨rfl, hb2⟩
    have HB2 := Lib.hid hb2
    clear hb2
    go_simp
    refine hK.out _ _ trivial (fun hH => ?_)
    clear hK K
    try simp only [Act.put, List.setIfInBounds_toArray, List.set_cons_zero, List.set_cons_succ]
    refine wpAnyH_ready (rs := [3]) (by kernel_rfl) (by simp) (AllReadyH.cons (o := ⟨some 21, _, _, _, _, _⟩) rfl (fun K hK => ?_) (AllReadyH.nil))
    go_simp
    refine hK.out _ _ trivial (fun hH => ?_)
    clear hK K
    try simp only [Act.put, List.setIfInBounds_toArray, List.set_cons_zero, List.set_cons_succ]
    refine wpAnyH_take (i := 5) (oi := ⟨some 23, _, _, _, _, _⟩) (v := ?_) rfl (by kernel_rfl) (by kernel_rfl) (by kernel_rfl) (fun _ _ _ h => h) (Or.inl ⟨by kernel_rfl, ?_⟩) hH ?_
    rotate_left 1
    · intro wq hq;  first | (go_simp; done) | (go_simp; with_reducible rfl)
    simp only [Act.put, List.setIfInBounds_toArray, List.set_cons_zero, List.set_cons_succ]
    refine wpAnyH_ready (rs := [6]) (by kernel_rfl) (by simp) (AllReadyH.cons (o := ⟨some 24, _, _, _, _, _⟩) rfl (fun K hK => ?_) (AllReadyH.nil))
    go_simp
    refine hK.out _ _ trivial (fun hH => ?_)
    clear hK K
    try simp only [Act.put, List.setIfInBounds_toArray, List.set_cons_zero, List.set_cons_succ]
    refine wpAnyH_take (i := 7) (oi := ⟨some 6, _, _, _, _, _⟩) (v := ?_) rfl (by kernel_rfl) (by kernel_rfl) (by kernel_rfl) (fun _ _ _ h => h) (Or.inl ⟨by kernel_rfl, ?_⟩) hH ?_
    rotate_left 1
    · intro wq hq;  first | (go_simp; done) | (go_simp; with_reducible rfl)
    simp only [Act.put, List.setIfInBounds_toArray, List.set_cons_zero, List.set_cons_succ]
    refine wpAnyH_done (by kernel_rfl) ?_ _
    clear hH
    rw [ref_arr]
    have HW2 : Below w.heap.size w w2 := below_then (Below.refl _ _).drew HB2.out (Nat.le_refl _)
    have hsz2 := HB2.out.size
    simp at hsz2
    have HQ : Hid (((w2.alloc (.cells (madeCells #[.int .u8 0] (n * 4096)) 5)).alloc (.cells (refCells n (w2.heap.size) hart0L) 62)).heap[w2.heap.size + 1]? = some (.cells (refCells n (w2.heap.size) hart0L) 62 (0, 0))) := by show _ = _; have := blk_alloc (w2.alloc (.cells (madeCells #[.int .u8 0] (n * 4096)) 5)) (.cells (refCells n (w2.heap.size) hart0L) 62); simpa using this
    have HS : Hid (((w2.alloc (.cells (madeCells #[.int .u8 0] (n * 4096)) 5)).alloc (.cells (refCells n (w2.heap.size) hart0L) 62)).rowIs (w2.heap.size) 5 (n * 4096) (fun _ => .int .u8 0)) := row_made n _ _ _ (by rw [blk_alloc_old _ _ _ (by simp)]; exact blk_alloc w2 _)
    have HB : Hid (Below w.heap.size w ((w2.alloc (.cells (madeCells #[.int .u8 0] (n * 4096)) 5)).alloc (.cells (refCells n (w2.heap.size) hart0L) 62))) := (HW2.alloc (by omega) _).alloc (by simp; omega) _
    have HQS : Hid (w.heap.size ≤ w2.heap.size + 1 ∧ w.heap.size ≤ w2.heap.size ∧ w2.heap.size + 1 ≠ w2.heap.size) := ⟨by omega, by omega, by omega⟩
    clear HW2 hsz2 HB2
    generalize (w2.alloc (.cells (madeCells #[.int .u8 0] (n * 4096)) 5)).alloc (.cells (refCells n (w2.heap.size) hart0L) 62) = W3 at *
    have c1 : W3.cell? ⟨w2.heap.size + 1, 1, none⟩ = some (.slice (some ⟨w2.heap.size, 0, none⟩) (n * 4096) (n * 4096)) := blk_cell HQ.out 1
    have HROW : Hid (IsRow W3 a m (fun i => .int .u8 (l.getD i 0))) := HSRC.out W3 HB.out
    go_wp2_with ((with_reducible refine wpList_copy_row rfl (.tmp 28) (.tmp 29) 22 22 rfl 5 Tryz.underlying22 (by kernel_rfl) (w2.heap.size) 0 (n * 4096) (n * 4096) a m c rfl rfl 5 (n * 4096) (fun _ => .int .u8 0) HS m HMIN.out (fun i => .int .u8 (l.getD i 0)) HROW HFIT.out (fun _ _ => rfl) hpos ?_); intro w6 hr6 ht6)
    have HB6 : Hid (Below w.heap.size w w6) := HB.out.trans (ht6.out.below HB.out.size (by rintro _ rfl; exact HQS.out.2.1))
    go_ret2
    refine ⟨w2.heap.size + 1, w2.heap.size, rfl, (ht6.out.block _ (blk_lt HQ.out) HQS.out.2.2).trans HQ.out, hr6.out.congr fun i hi => ?_, HQS.out.1, HQS.out.2.1, HQS.out.2.2, HB6.out⟩
    by_cases h : i < m
    · rw [if_pos h, if_pos ⟨Nat.zero_le _, by omega⟩, Nat.sub_zero]
    · rw [if_neg h, if_neg (by omega)]

set_option maxHeartbeats 4000000 in
theorem ref24_new0 (n : Nat) (h4 : 4 ≤ n) (h256 : n ≤ 256) (a : Option Addr) (c : Nat) (w : World) (l : List Int) :
    Calls Tryz.prog 37 #[.int .i64 n, .slice a 0 c] w (RefNew w n l 0) := by
  have hmk : ∀ wq, (Instr.makeSlice 22 (.int .i64 (IntKind.i64.wrap ((n : Int) * 4096))) (.int .i64 (IntKind.i64.wrap ((n : Int) * 4096)))).run Tryz.prog wq = .ok (.slice (some ⟨wq.heap.size, 0, none⟩) (n * 4096) (n * 4096)) (wq.alloc (.cells (madeCells #[.int .u8 0] (n * 4096)) 5)) := fun wq => by
    have := run_make_row' (P := Tryz.prog) 22 5 (.int .u8 0) 1 Tryz.underlying22 A_info5 rfl .i64 .i64 (n * 4096) (by omega) (by omega) wq
    rw [show ((n * 4096 : Nat) : Int) = IntKind.i64.wrap ((n : Int) * 4096) by rw [IntKind.wrap_i64]; omega] at this
    exact this
  have hsz : hart0.size = 66 := by kernel_rfl
  go_enter Tryz.func37, Tryz.ntmps37
  go_wp2_with fail
  refine wp_region_held_drew (S := fun wq => True) (by kernel_rfl) trivial (fun hH => ?_)
  refine wpAnyH_take (i := 0) (oi := ⟨some 18, _, _, _, _, _⟩) (v := ?_) rfl (by kernel_rfl) (by kernel_rfl) (by kernel_rfl) (fun _ _ _ h => h) (Or.inl ⟨by kernel_rfl, ?_⟩) hH ?_
  rotate_left 1
  · intro wq hq;  first | (go_simp; done) | (go_simp; with_reducible rfl)
  simp only [Act.put, List.setIfInBounds_toArray, List.set_cons_zero, List.set_cons_succ]
  refine wpAnyH_take (i := 1) (oi := ⟨some 19, _, _, _, _, _⟩) (v := ?_) rfl (by kernel_rfl) (by kernel_rfl) (by kernel_rfl) (fun _ _ _ h => h) (Or.inl ⟨by kernel_rfl, ?_⟩) hH ?_
  rotate_left 1
  · intro wq hq;  first | (go_simp; done) | (go_simp; with_reducible rfl)
  simp only [Act.put, List.setIfInBounds_toArray, List.set_cons_zero, List.set_cons_succ]
  refine wpAnyH_take (i := 2) (oi := ⟨some 20, _, _, _, _, _⟩) (v := ?_) rfl (by kernel_rfl) (by kernel_rfl) (by kernel_rfl) (fun _ _ _ h => h) (Or.inl ⟨by kernel_rfl, ?_⟩) hH ?_
  rotate_left 1
  · intro wq hq;  first | (go_simp; done) | (go_simp; with_reducible rfl)
  simp only [Act.put, List.setIfInBounds_toArray, List.set_cons_zero, List.set_cons_succ]
  refine wpAnyH_ready (rs := [3, 4]) (by kernel_rfl) (by simp) (AllReadyH.cons (o := ⟨some 21, _, _, _, _, _⟩) rfl (fun K hK => ?_) (AllReadyH.cons (o := ⟨some 22, _, _, _, _, _⟩) rfl (fun K hK => ?_) (AllReadyH.nil)))
  · go_simp
    refine hK.out _ _ trivial (fun hH => ?_)
    clear hK K
    try simp only [Act.put, List.setIfInBounds_toArray, List.set_cons_zero, List.set_cons_succ]
    refine wpAnyH_ready (rs := [4]) (by kernel_rfl) (by simp) (AllReadyH.cons (o := ⟨some 22, _, _, _, _, _⟩) rfl (fun K hK => ?_) (AllReadyH.nil))
    go_simp
    refine (ref_reset _).mono ?_
    rintro e w2 ⟨rfl, hb2⟩
    have HB2 := Lib.hid hb2
    clear hb2
    go_simp
    refine hK.out _ _ trivial (fun hH => ?_)
    clear hK K
    try simp only [Act.put, List.setIfInBounds_toArray, List.set_cons_zero, List.set_cons_succ]
    refine wpAnyH_take (i := 5) (oi := ⟨some 23, _, _, _, _, _⟩) (v := ?_) rfl (by kernel_rfl) (by kernel_rfl) (by kernel_rfl) (fun _ _ _ h => h) (Or.inl ⟨by kernel_rfl, ?_⟩) hH ?_
    rotate_left 1
    · intro wq hq;  first | (go_simp; done) | (go_simp; with_reducible rfl)
    simp only [Act.put, List.setIfInBounds_toArray, List.set_cons_zero, List.set_cons_succ]
    refine wpAnyH_ready (rs := [6]) (by kernel_rfl) (by simp) (AllReadyH.cons (o := ⟨some 24, _, _, _, _, _⟩) rfl (fun K hK => ?_) (AllReadyH.nil))
    go_simp
    refine hK.out _ _ trivial (fun hH => ?_)
    clear hK K
    try simp only [Act.put, List.setIfInBounds_toArray, List.set_cons_zero, List.set_cons_succ]
    refine wpAnyH_take (i := 7) (oi := ⟨some 6, _, _, _, _, _⟩) (v := ?_) rfl (by kernel_rfl) (by kernel_rfl) (by kernel_rfl) (fun _ _ _ h => h) (Or.inl ⟨by kernel_rfl, ?_⟩) hH ?_
    rotate_left 1
    · intro wq hq;  first | (go_simp; done) | (go_simp; with_reducible rfl)
    simp only [Act.put, List.setIfInBounds_toArray, List.set_cons_zero, List.set_cons_succ]
    refine wpAnyH_done (by kernel_rfl) ?_ _
    clear hH
    rw [ref_arr]
    have HW2 : Below w.heap.size w w2 := below_then ((Below.refl _ _).alloc (Nat.le_refl _) _).drew HB2.out (by simp)
    have hsz2 := HB2.out.size
    simp at hsz2
    have HQ : Hid ((w2.alloc (.cells (refCells n (w.heap.size) hart0L) 62)).heap[w2.heap.size]? = some (.cells (refCells n (w.heap.size) hart0L) 62 (0, 0))) := blk_alloc _ _
    have HS : Hid ((w2.alloc (.cells (refCells n (w.heap.size) hart0L) 62)).rowIs (w.heap.size) 5 (n * 4096) (fun _ => .int .u8 0)) := row_made n _ _ _ (by rw [blk_alloc_old _ _ _ (by omega), HB2.out.block _ (by simp)]; exact blk_alloc w _)
    have HB : Hid (Below w.heap.size w (w2.alloc (.cells (refCells n (w.heap.size) hart0L) 62))) := HW2.alloc (by omega) _
    have HQS : Hid (w.heap.size ≤ w2.heap.size ∧ w.heap.size ≤ w.heap.size ∧ w2.heap.size ≠ w.heap.size) := ⟨by omega, by omega, by omega⟩
    clear HW2 hsz2 HB2
    generalize w2.alloc (.cells (refCells n (w.heap.size) hart0L) 62) = W3 at *
    have c1 : W3.cell? ⟨w2.heap.size, 1, none⟩ = some (.slice (some ⟨w.heap.size, 0, none⟩) (n * 4096) (n * 4096)) := blk_cell HQ.out 1
    have hcz := copy_zero ⟨w.heap.size, 0, none⟩ (n * 4096) (n * 4096) a c
    go_wp2_with fail
    go_ret2
    refine ⟨w2.heap.size, w.heap.size, rfl, HQ.out, HS.out.congr fun i hi => ?_, HQS.out.1, HQS.out.2.1, HQS.out.2.2, HB.out⟩
    rw [if_neg (by omega)]
  · go_simp
    refine (ref_reset _).mono ?_
    rintro e w2 ⟨rfl, hb2⟩
    have HB2 := Lib.hid hb2
    clear hb2
    go_simp
    refine hK.out _ _ trivial (fun hH => ?_)
    clear hK K
    try simp only [Act.put, List.setIfInBounds_toArray, List.set_cons_zero, List.set_cons_succ]
    refine wpAnyH_ready (rs := [3]) (by kernel_rfl) (by simp) (AllReadyH.cons (o := ⟨some 21, _, _, _, _, _⟩) rfl (fun K hK => ?_) (AllReadyH.nil))
    go_simp
    refine hK.out _ _ trivial (fun hH => ?_)
    clear hK K
    try simp only [Act.put, List.setIfInBounds_toArray, List.set_cons_zero, List.set_cons_succ]
    refine wpAnyH_take (i := 5) (oi := ⟨some 23, _, _, _, _, _⟩) (v := ?_) rfl (by kernel_rfl) (by kernel_rfl) (by kernel_rfl) (fun _ _ _ h => h) (Or.inl ⟨by kernel_rfl, ?_⟩) hH ?_
    rotate_left 1
    · intro wq hq;  first | (go_simp; done) | (go_simp; with_reducible rfl)
    simp only [Act.put, List.setIfInBounds_toArray, List.set_cons_zero, List.set_cons_succ]
    refine wpAnyH_ready (rs := [6]) (by kernel_rfl) (by simp) (AllReadyH.cons (o := ⟨some 24, _, _, _, _, _⟩) rfl (fun K hK => ?_) (AllReadyH.nil))
    go_simp
    refine hK.out _ _ trivial (fun hH => ?_)
    clear hK K
    try simp only [Act.put, List.setIfInBounds_toArray, List.set_cons_zero, List.set_cons_succ]
    refine wpAnyH_take (i := 7) (oi := ⟨some 6, _, _, _, _, _⟩) (v := ?_) rfl (by kernel_rfl) (by kernel_rfl) (by kernel_rfl) (fun _ _ _ h => h) (Or.inl ⟨by kernel_rfl, ?_⟩) hH ?_
    rotate_left 1
    · intro wq hq;  first | (go_simp; done) | (go_simp; with_reducible rfl)
    simp only [Act.put, List.setIfInBounds_toArray, List.set_cons_zero, List.set_cons_succ]
    refine wpAnyH_done (by kernel_rfl) ?_ _
    clear hH
    rw [ref_arr]
    have HW2 : Below w.heap.size w w2 := below_then (Below.refl _ _).drew HB2.out (Nat.le_refl _)
    have hsz2 := HB2.out.size
    simp at hsz2
    have HQ : Hid (((w2.alloc (.cells (madeCells #[.int .u8 0] (n * 4096)) 5)).alloc (.cells (refCells n (w2.heap.size) hart0L) 62)).heap[w2.heap.size + 1]? = some (.cells (refCells n (w2.heap.size) hart0L) 62 (0, 0))) := by show _ = _; have := blk_alloc (w2.alloc (.cells (madeCells #[.int .u8 0] (n * 4096)) 5)) (.cells (refCells n (w2.heap.size) hart0L) 62); simpa using this
    have HS : Hid (((w2.alloc (.cells (madeCells #[.int .u8 0] (n * 4096)) 5)).alloc (.cells (refCells n (w2.heap.size) hart0L) 62)).rowIs (w2.heap.size) 5 (n * 4096) (fun _ => .int .u8 0)) := row_made n _ _ _ (by rw [blk_alloc_old _ _ _ (by simp)]; exact blk_alloc w2 _)
    have HB : Hid (Below w.heap.size w ((w2.alloc (.cells (madeCells #[.int .u8 0] (n * 4096)) 5)).alloc (.cells (refCells n (w2.heap.size) hart0L) 62))) := (HW2.alloc (by omega) _).alloc (by simp; omega) _
    have HQS : Hid (w.heap.size ≤ w2.heap.size + 1 ∧ w.heap.size ≤ w2.heap.size ∧ w2.heap.size + 1 ≠ w2.heap.size) := ⟨by omega, by omega, by omega⟩
    clear HW2 hsz2 HB2
    generalize (w2.alloc (.cells (madeCells #[.int .u8 0] (n * 4096)) 5)).alloc (.cells (refCells n (w2.heap.size) hart0L) 62) = W3 at *
    have c1 : W3.cell? ⟨w2.heap.size + 1, 1, none⟩ = some (.slice (some ⟨w2.heap.size, 0, none⟩) (n * 4096) (n * 4096)) := blk_cell HQ.out 1
    have hcz := copy_zero ⟨w2.heap.size, 0, none⟩ (n * 4096) (n * 4096) a c
    go_wp2_with fail
    go_ret2
    refine ⟨w2.heap.size + 1, w2.heap.size, rfl, HQ.out, HS.out.congr fun i hi => ?_, HQS.out.1, HQS.out.2.1, HQS.out.2.2, HB.out⟩
    rw [if_neg (by omega)]
end Go.Proofs.YtkogjjeoihnjpaaGreat
end
section
set_option linter.unusedVariables false
set_option linter.unusedSimpArgs false
namespace Go.Proofs.YtkogjjeoihnjpaaGreat
open Go.RowKit Sx
set_option maxRecDepth 100000
/-- how many pages -/
def pagesN (n : Int) : Nat := 4 + ((IntKind.u64.wrap n) % 5).toNat
theorem pagesN_bd (n : Int) : 4 ≤ pagesN n ∧ pagesN n ≤ 8 := by
  unfold pagesN
  have : 0 ≤ IntKind.u64.wrap n := by rw [IntKind.wrap_u64]; omega
  omega
set_option maxHeartbeats 1000000 in
theorem law_pages (n : Int) (w : World) : Calls Tryz.prog 35 #[.int .i64 n] w fun e w' => e = .returned (.int .i64 (pagesN n : Nat)) ∧ w = w' := by
  have h0 : 0 ≤ IntKind.u64.wrap n := by rw [IntKind.wrap_u64]; omega
  have HP : Hid ((pagesN n : Int) = 4 + IntKind.u64.wrap n % 5) := by show _ = _; unfold pagesN; omega
  generalize pagesN n = N at *
  generalize hW : IntKind.u64.wrap n = W at *
  have HW := Lib.hid hW
  clear hW
  go_enter Tryz.func35, Tryz.ntmps35
  go_wp2_with fail
  have e1 : (IntKind.u64.wrap n).tmod 5 = W % 5 := by rw [HW.out, Int.tmod_eq_emod_of_nonneg h0]
  have e2 : wrap64 (W % 5) = W % 5 := by unfold wrap64; omega
  have e3 : wrap64 (4 + W % 5) = 4 + W % 5 := by unfold wrap64; omega
  go_ret
  refine ⟨?_, rfl⟩
  show Ending.returned (Value.int .i64 (wrap64 (4 + wrap64 ((IntKind.u64.wrap n).tmod 5)))) = _
  rw [e1, e2, e3, HP.out]
theorem own_lt {w : World} {base : Nat} {v : Value} {n : Nat} {vs : List Value} (h : w.ownsRow base 5 1 v n vs) : ∀ b o s m c, v = .slice (some ⟨b, o, s⟩) m c → b < w.heap.size := by
  intro b o s m c hv
  rcases h.2 with ⟨h, _⟩ | ⟨g, cap, cur, h, hg, hcur, _⟩
  · rw [h] at hv; cases hv
  · rw [h] at hv; cases hv; exact blk_lt hcur
/-- a pair that is made: both machines over what they are made of -/
structure PairIs (w : World) (B N : Nat) (q p b mq sb : Nat) (S : Nat → Prop) (h hr : List Int) (ct : Nat → Nat) (f : Nat → Value) : Prop where
  pair : w.heap[q]? = some (.cells #[.pointer (some ⟨p, 0, none⟩), .pointer (some ⟨mq, 0, none⟩)] 34 (0, 0))
  mach : MachAt w p b (cksV hartC h)
  ram : RamAt w b N ct S
  ref : w.heap[mq]? = some (.cells (refCells N sb hr) 62 (0, 0))
  row : w.rowIs sb 5 (N * 4096) f
  pb : p ≠ b
  pS : ¬ S p
  own : ∀ g, S g → B ≤ g
  b_ : B ≤ b
  p_ : B ≤ p
  mq_ : B ≤ mq
  sb_ : B ≤ sb
  q_ : B ≤ q
  /-- the others are none of the machine's blocks -/
  apq : q ≠ p ∧ q ≠ b ∧ ¬ S q
  apm : mq ≠ p ∧ mq ≠ b ∧ ¬ S mq
  aps : sb ≠ p ∧ sb ≠ b ∧ ¬ S sb
  ne : q ≠ mq ∧ q ≠ sb ∧ mq ≠ sb
/-- what made answers -/
def MadeIs (w : World) (N : Nat) (l : List Int) (k : Nat) (e : Ending) (w' : World) : Prop :=
  ∃ q p b mq sb S, e = .returned (.pointer (some ⟨q, 0, none⟩)) ∧ PairIs w' w.heap.size N q p b mq sb S hart0L hart0L (putTo (fun _ => 0) 0 (fun i => (l.getD i 0).toNat) (fun _ => true) k) (fun i => .int .u8 (if i < k then l.getD i 0 else 0)) ∧ Below w.heap.size w w'
theorem ref24_new_any (n : Nat) (h4 : 4 ≤ n) (h256 : n ≤ 256) (a : Option Addr) (m c : Nat) (hm : (m : Int) ≤ (n : Int) * 4096) (w : World) (l : List Int) (hl : IsB w a m l) (hin : ∀ b o s, a = some ⟨b, o, s⟩ → b < w.heap.size) :
    Calls Tryz.prog 37 #[.int .i64 n, .slice a m c] w (RefNew w n l m) := by
  by_cases h0 : m = 0
  · subst h0; exact ref24_new0 n h4 h256 a c w l
  · exact ref24_new n h4 h256 a m c hm w l hl hin (by omega)
set_option maxHeartbeats 2000000 in
theorem made_short (n : Int) (a : Option Addr) (m c : Nat) (w : World) (l : List Int) (hl : IsB w a m l) (hin : ∀ b o s, a = some ⟨b, o, s⟩ → b < w.heap.size) (hm : (m : Int) ≤ 16384) :
    Calls Tryz.prog 14 #[.int .i64 n, .slice a m c] w (MadeIs w (pagesN n) l m) := by
  have HPG := Lib.hid (law_pages n)
  obtain ⟨hN4, hN8⟩ := pagesN_bd n
  generalize pagesN n = N at *
  have HN := Lib.hid (And.intro hN4 hN8)
  have HCP := Lib.hid (fun w => copy_bytes a m c (l) w)
  have HIB : Hid (IsB w a m (l)) := hl
  have HIN := Lib.hid hin
  have HK : Hid ((m : Nat) ≤ 16384) := by show _ ≤ _; omega
  clear hN4 hN8 hin hl
  go_enter Tryz.func14, Tryz.ntmps14
  go_wp2_with fail
  refine (HPG.out _).mono ?_
  rintro e w0 ⟨rfl, rfl⟩
  go_wp2_with fail
  refine (HCP.out _ HIB.out (by have := HK.out; omega)).mono ?_
  rintro e w1 ⟨v, rfl, hown, hb⟩
  have hlt := own_lt hown
  obtain ⟨a1, c1, rfl, hib⟩ := bytes_own hown HIB.out.bd
  have HB1 := Lib.hid hb
  have HNEW := Lib.hid (isa_new N HN.out.1 (by have := HN.out.2; omega) a1 m c1 (by have := HK.out; have := HN.out.1; omega) w1 (l) hib (fun S hS b o s e hs => by have := hlt b o s _ _ (by rw [e]); have := hS b hs; omega))
  clear hb hown hlt hib
  go_wp2_with fail
  refine HNEW.out.mono ?_
  rintro e w2 ⟨p, b, S, rfl, hm1, hm2, hpb, hpS, hS, hb_, hp_, hb2⟩
  have HM := Lib.hid hm1
  have HR := Lib.hid hm2
  have HB2 : Hid (Below w.heap.size w w2) := below_then HB1.out hb2 HB1.out.size
  have HAP : Hid (p ≠ b ∧ ¬ S p ∧ (∀ g, S g → w.heap.size ≤ g) ∧ w.heap.size ≤ b ∧ w.heap.size ≤ p) := by
    have h1 := HB1.out.size
    exact ⟨hpb, hpS, fun g hg => by have := hS g hg; omega, by omega, by omega⟩
  clear hm1 hm2 hpb hpS hS hb_ hp_ hb2 HNEW HB1
  go_wp2_with fail
  refine (HPG.out _).mono ?_
  rintro e w0 ⟨rfl, rfl⟩
  go_wp2_with fail
  refine (ref24_new_any N HN.out.1 (by have := HN.out.2; omega) a m c (by have := HK.out; have := HN.out.1; omega) w2 (l) (isB_turned HIB.out (Turned.of_below HB2.out (fun _ => False)) (fun _ _ _ _ e => e)) (fun b o s e => by have := HIN.out b o s e; have := HB2.out.size; omega)).mono ?_
  rintro e w3 ⟨mq, sb, rfl, hq, hrow, hmq, hsb, hne, hb3⟩
  have HB3 : Hid (Below w.heap.size w w3) := below_then HB2.out hb3 HB2.out.size
  have HM3 := Lib.hid (HM.out.below hb3)
  have HR3 := Lib.hid (HR.out.below hb3)
  have HQ := Lib.hid hq
  have HROW := Lib.hid hrow
  have HLT : Hid (p < w2.heap.size ∧ b < w2.heap.size ∧ (∀ g, S g → g < w2.heap.size) ∧ w2.heap.size ≤ mq ∧ w2.heap.size ≤ sb ∧ mq ≠ sb ∧ w2.heap.size ≤ w3.heap.size ∧ mq < w3.heap.size ∧ sb < w3.heap.size) := ⟨blk_lt HM.out.2, HR.out.self.2, fun g hg => HR.out.lt hg, hmq, hsb, hne, hb3.size, blk_lt hq, hrow.lt⟩
  clear hq hrow hmq hsb hne hb3 HM HR
  go_wp2_with fail
  go_ret
  have hs2 := HB2.out.size
  obtain ⟨l1, l2, l3, l4, l5, l6, l7, l8, l9⟩ := HLT.out
  obtain ⟨a1, a2, a3, a4, a5⟩ := HAP.out
  have hal := (Below.refl w3.heap.size w3).alloc (Nat.le_refl _) (Obj.cells #[Value.pointer (some ⟨p, 0, none⟩), .pointer (some ⟨mq, 0, none⟩)] 34)
  refine ⟨w3.heap.size, p, b, mq, sb, S, rfl, ⟨blk_alloc _ _, HM3.out.below hal, HR3.out.below hal, (hal.block _ l8).trans HQ.out, HROW.out.of_block (hal.block _ l9), a1, a2, a3, a4, a5, by omega, by omega, by omega, ⟨by omega, by omega, fun h => by have := l3 _ h; omega⟩, ⟨by omega, by omega, fun h => by have := l3 _ h; omega⟩, ⟨by omega, by omega, fun h => by have := l3 _ h; omega⟩, ⟨by omega, by omega, l6⟩⟩, HB3.out.alloc (by omega) _⟩
set_option maxHeartbeats 2000000 in
theorem made_long (n : Int) (a : Option Addr) (m c : Nat) (w : World) (l : List Int) (hl : IsB w a m l) (hin : ∀ b o s, a = some ⟨b, o, s⟩ → b < w.heap.size) (hm : (16384 : Int) < m) (hc : m ≤ c) :
    Calls Tryz.prog 14 #[.int .i64 n, .slice a m c] w (MadeIs w (pagesN n) (l.take 16384) 16384) := by
  have HPG := Lib.hid (law_pages n)
  obtain ⟨hN4, hN8⟩ := pagesN_bd n
  generalize pagesN n = N at *
  have HN := Lib.hid (And.intro hN4 hN8)
  have HCP := Lib.hid (fun w => copy_bytes a 16384 c (l.take 16384) w)
  have HIB : Hid (IsB w a 16384 (l.take 16384)) := by
    refine ⟨by rw [List.length_take, hl.hlen]; omega, fun x hx => hl.bd x (List.mem_of_mem_take hx), ?_⟩
    rcases hl.cell with ⟨_, h0⟩ | ⟨b, o, h1, h2⟩
    · omega
    · refine .inr ⟨b, o, h1, fun i hi => ?_⟩
      rw [h2 i (by omega)]
      simp [List.getD, hi]

  have HIN := Lib.hid hin
  have HK : Hid ((16384 : Nat) ≤ 16384) := Nat.le_refl _
  obtain ⟨ab, ao, rfl⟩ : ∃ ab ao, a = some ⟨ab, ao, none⟩ := by
    rcases hl.cell with ⟨_, h0⟩ | ⟨b, o, h1, h2⟩
    · omega
    · exact ⟨b, o, h1⟩
  have hc' : (16384 : Int) ≤ c := by omega
  clear hN4 hN8 hin hl
  go_enter Tryz.func14, Tryz.ntmps14
  go_wp2_with fail
  refine (HPG.out _).mono ?_
  rintro e w0 ⟨rfl, rfl⟩
  go_wp2_with fail
  refine (HCP.out _ HIB.out (by have := HK.out; omega)).mono ?_
  rintro e w1 ⟨v, rfl, hown, hb⟩
  have hlt := own_lt hown
  obtain ⟨a1, c1, rfl, hib⟩ := bytes_own hown HIB.out.bd
  have HB1 := Lib.hid hb
  have HNEW := Lib.hid (isa_new N HN.out.1 (by have := HN.out.2; omega) a1 16384 c1 (by have := HK.out; have := HN.out.1; omega) w1 (l.take 16384) hib (fun S hS b o s e hs => by have := hlt b o s _ _ (by rw [e]); have := hS b hs; omega))
  clear hb hown hlt hib
  go_wp2_with fail
  refine HNEW.out.mono ?_
  rintro e w2 ⟨p, b, S, rfl, hm1, hm2, hpb, hpS, hS, hb_, hp_, hb2⟩
  have HM := Lib.hid hm1
  have HR := Lib.hid hm2
  have HB2 : Hid (Below w.heap.size w w2) := below_then HB1.out hb2 HB1.out.size
  have HAP : Hid (p ≠ b ∧ ¬ S p ∧ (∀ g, S g → w.heap.size ≤ g) ∧ w.heap.size ≤ b ∧ w.heap.size ≤ p) := by
    have h1 := HB1.out.size
    exact ⟨hpb, hpS, fun g hg => by have := hS g hg; omega, by omega, by omega⟩
  clear hm1 hm2 hpb hpS hS hb_ hp_ hb2 HNEW HB1
  go_wp2_with fail
  refine (HPG.out _).mono ?_
  rintro e w0 ⟨rfl, rfl⟩
  go_wp2_with fail
  refine (ref24_new_any N HN.out.1 (by have := HN.out.2; omega) (some ⟨ab, ao, none⟩) 16384 c (by have := HK.out; have := HN.out.1; omega) w2 (l.take 16384) (isB_turned HIB.out (Turned.of_below HB2.out (fun _ => False)) (fun _ _ _ _ e => e)) (fun b o s e => by have := HIN.out b o s e; have := HB2.out.size; omega)).mono ?_
  rintro e w3 ⟨mq, sb, rfl, hq, hrow, hmq, hsb, hne, hb3⟩
  have HB3 : Hid (Below w.heap.size w w3) := below_then HB2.out hb3 HB2.out.size
  have HM3 := Lib.hid (HM.out.below hb3)
  have HR3 := Lib.hid (HR.out.below hb3)
  have HQ := Lib.hid hq
  have HROW := Lib.hid hrow
  have HLT : Hid (p < w2.heap.size ∧ b < w2.heap.size ∧ (∀ g, S g → g < w2.heap.size) ∧ w2.heap.size ≤ mq ∧ w2.heap.size ≤ sb ∧ mq ≠ sb ∧ w2.heap.size ≤ w3.heap.size ∧ mq < w3.heap.size ∧ sb < w3.heap.size) := ⟨blk_lt HM.out.2, HR.out.self.2, fun g hg => HR.out.lt hg, hmq, hsb, hne, hb3.size, blk_lt hq, hrow.lt⟩
  clear hq hrow hmq hsb hne hb3 HM HR
  go_wp2_with fail
  go_ret
  have hs2 := HB2.out.size
  obtain ⟨l1, l2, l3, l4, l5, l6, l7, l8, l9⟩ := HLT.out
  obtain ⟨a1, a2, a3, a4, a5⟩ := HAP.out
  have hal := (Below.refl w3.heap.size w3).alloc (Nat.le_refl _) (Obj.cells #[Value.pointer (some ⟨p, 0, none⟩), .pointer (some ⟨mq, 0, none⟩)] 34)
  refine ⟨w3.heap.size, p, b, mq, sb, S, rfl, ⟨blk_alloc _ _, HM3.out.below hal, HR3.out.below hal, (hal.block _ l8).trans HQ.out, HROW.out.of_block (hal.block _ l9), a1, a2, a3, a4, a5, by omega, by omega, by omega, ⟨by omega, by omega, fun h => by have := l3 _ h; omega⟩, ⟨by omega, by omega, fun h => by have := l3 _ h; omega⟩, ⟨by omega, by omega, fun h => by have := l3 _ h; omega⟩, ⟨by omega, by omega, l6⟩⟩, HB3.out.alloc (by omega) _⟩
end Go.Proofs.YtkogjjeoihnjpaaGreat
end
