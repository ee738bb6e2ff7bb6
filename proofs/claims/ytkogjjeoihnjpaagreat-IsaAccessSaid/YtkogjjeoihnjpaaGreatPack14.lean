/- The reference's New. No condition. The PLIC's state as data (plain Lean; no walk). No condition. What is written into the PLIC's registers, as numbers (plain Lean). No condition. Rules by which the walk loads and stores a whole struct in one step: a block told by its row of cells. No condition. Contracts of tappethelp.Own, Same, Plain, Kept, CopyBytes. No condition. What the laws' made gives: a machine and the reference's, alike. No condition. Words and their bytes (plain). No condition. The reference of bits: bit, may, Field, Bytes, Word. No condition. The document's Word of tappetref01, by the bytes. No condition. The document's machine: a word of its bytes, an entry, a word stored. No condition. The document's machine: a word stored. No condition. -/
import Derived.Test.YtkogjjeoihnjpaaGreatPack13
import Derived.Laws.CopyOwn
import Derived.Deep.OwnRows
import Derived.StillTailTactics
import Derived.BigRegion
import Derived.Deep.RegionWith
import Derived.Deep.RegionHeld3
import Derived.Deep.QuietTactic
import Derived.BigQuiet
import Derived.Deep.DeepFit
import Derived.Deep.DeepMust
import Derived.Handy
import Derived.Test.YtkogjjeoihnjpaaGreatPack11
import Derived.Test.YtkogjjeoihnjpaaGreatPack12
import Derived.Deep.LoopGhost
import Derived.Deep.DeepCutAuto
section
set_option linter.unusedVariables false
set_option linter.unusedSimpArgs false
namespace Go.Proofs.YtkogjjeoihnjpaaGreat
open Go.RowKit Sx
set_option maxRecDepth 100000
/-- bytes copied into the midst of a row -/
theorem wpList_copy_row {P : Program} {w : World} {ops : Array Oper} {rest : List Oper} {o : Oper} {a : Act} {Q : Exit → Act → World → Prop} (hgd : o.guard = none) (d s : Operand) (dT sT : TypeId)
    (ho : o.op = .call { callee := .builtin .copy, args := #[d, s], argTypes := #[dT, sT] }) (elem : TypeId) (hu : P.underlying dT = some (.slice elem)) (hsz : (P.info? elem).map (·.size) = some 1)
    (g off dLen dCap : Nat) (sp : Option Addr) (sLen sCap : Nat) (hd : a.eval d = .slice (some ⟨g, off, none⟩) dLen dCap) (hs : a.eval s = .slice sp sLen sCap)
    (t : TypeId) (n : Nat) (f : Nat → Value) (hg : Hid (w.rowIs g t n f)) (k : Nat) (hk : k = Nat.min sLen dLen) (V : Nat → Value) (hsrc : Hid (IsRow w sp k V)) (hfit : off + k ≤ n) (h1 : ∀ i, i < k → (V i).oneCell' = true) (hk0 : 0 < k)
    (h : ∀ w', Hid (w'.rowIs g t n (fun i => if off ≤ i ∧ i < off + k then V (i - off) else f i)) → Hid (Turned (· = g) w w') → wpList P ops Q rest (a.put o.dst (goInt k)) w') :
    wpList P ops Q (o :: rest) a w := by
  obtain ⟨cur, hc, hsz2, hf⟩ := hg.out
  obtain ⟨sb, so, rfl, hlt, hcell⟩ := hsrc.out hk0
  have hlen : ((List.range k).map V).length = k := by simp
  refine wpList_copy_own hgd d s dT sT ho elem hu hsz g off dLen dCap ⟨sb, so, none⟩ sLen sCap hd hs cur t hc ((List.range k).map V) (by rw [hlen]; exact hk) ?_ (by rw [hlen]; omega) ?_ ?_
  · intro j v hv
    have hj : j < k := by have := (List.getElem?_eq_some_iff.1 hv).1; omega
    simp [hj] at hv
    rw [addr_add, hcell j hj, hv]
  · intro v hv
    simp only [List.mem_map, List.mem_range] at hv
    obtain ⟨i, hi, rfl⟩ := hv
    exact h1 i hi
  · rw [hlen]
    refine h _ (show World.rowIs _ _ _ _ _ from ⟨_, setRow_heap w g _ _ t _ hc, ?_, ?_⟩) (show Turned _ _ _ from ⟨rfl, rfl, rfl, by simp [World.setRow], fun q hq hn => setRow_other w g q _ hn⟩)
    · simp [hsz2]; omega
    · intro i hi
      have hi2 : i < cur.size := by omega
      simp only [List.getElem?_toArray]
      by_cases h1 : i < off
      · rw [List.getElem?_append_left (by simp; omega), if_neg (by omega), List.getElem?_take_of_lt h1, Array.getElem?_toList]
        exact hf i hi
      · rw [List.getElem?_append_right (by simp; omega)]
        have hl : (cur.toList.take off).length = off := by simp; omega
        rw [hl]
        by_cases h2 : i < off + k
        · rw [List.getElem?_append_left (by rw [hlen]; omega), if_pos (by omega)]
          simp [show i - off < k by omega]
        · rw [List.getElem?_append_right (by rw [hlen]; omega), if_neg (by omega), hlen, List.getElem?_drop, Array.getElem?_toList, show off + k + (i - off - k) = i by omega]
          exact hf i hi

theorem copy_zero (d : Addr) (dl dc : Nat) (a : Option Addr) (c : Nat) (w : World) : (Builtin.copy_ #[22, 22] 3 #[.slice (some d) dl dc, .slice a 0 c]).run Tryz.prog w = .ok (goInt 0) w := by
  cases a <;> kernel_rfl
/-- the reference's machine: its pages, where its bytes lie, its hart -/
def refCells (n sb : Nat) (h : List Int) : Array Value := ([Value.int .i64 n, .slice (some ⟨sb, 0, none⟩) (n * 4096) (n * 4096)] ++ cksV hartC h).toArray
theorem ref_arr (n sb : Nat) : (Array.foldl (fun cs x => cs.setIfInBounds (2 + x.snd) x.fst) ((Tryz.zeroCells62.setIfInBounds 0 (Value.int .i64 n)).setIfInBounds 1 (Value.slice (some ⟨sb, 0, none⟩) (n * 4096) (n * 4096))) hart0.zipIdx 0 66) = refCells n sb hart0L := by kernel_rfl
/-- a reference's machine that is made -/
def RefNew (w : World) (n : Nat) (l : List Int) (m : Nat) (e : Ending) (w' : World) : Prop :=
  ∃ q sb, e = .returned (.tuple #[.pointer (some ⟨q, 0, none⟩), .int .i64 0]) ∧ w'.heap[q]? = some (.cells (refCells n sb hart0L) 62 (0, 0)) ∧ w'.rowIs sb 5 (n * 4096) (fun i => .int .u8 (if i < m then l.getD i 0 else 0)) ∧ w.heap.size ≤ q ∧ w.heap.size ≤ sb ∧ q ≠ sb ∧ Below w.heap.size w w'
theorem row_made (n : Nat) (w : World) (b : Nat) (t : TypeId) (h : w.heap[b]? = some (.cells (madeCells #[.int .u8 0] (n * 4096)) t (0, 0))) : w.rowIs b t (n * 4096) (fun _ => .int .u8 0) := ⟨_, h, by rw [size_madeCells], fun i hi => by
  have := toList_madeCells_one (.int .u8 0) (n * 4096)
  rw [← Array.getElem?_toList, this]
  simp [hi]⟩
set_option maxHeartbeats 4000000 in
theorem ref24_new (n : Nat) (h4 : 4 ≤ n) (h256 : n ≤ 256) (a : Option Addr) (m c : Nat) (hm : (m : Int) ≤ (n : Int) * 4096) (w : World) (l : List Int) (hl : IsB w a m l) (hin : ∀ b o s, a = some ⟨b, o, s⟩ → b < w.heap.size) (hpos : 0 < m) :
    Calls Tryz.prog 37 #[.int .i64 n, .slice a m c] w (RefNew w n l m) := by
  have hmk : ∀ wq, (Instr.makeSlice 22 (.int .i64 (IntKind.i64.wrap ((n : Int) * 4096))) (.int .i64 (IntKind.i64.wrap ((n : Int) * 4096)))).run Tryz.prog wq = .ok (.slice (some ⟨wq.heap.size, 0, none⟩) (n * 4096) (n * 4096)) (wq.alloc (.cells (madeCells #[.int .u8 0] (n * 4096)) 5)) := fun wq => by
    have := run_make_row' (P := Tryz.prog) 22 5 (.int .u8 0) 1 Tryz.underlying22 A_info5 rfl .i64 .i64 (n * 4096) (by omega) (by omega) wq
    rw [show ((n * 4096 : Nat) : Int) = IntKind.i64.wrap ((n : Int) * 4096) by rw [IntKind.wrap_i64]; omega] at this
    exact this
  have HSRC : Hid (∀ W, Below w.heap.size w W → IsRow W a m (fun i => .int .u8 (l.getD i 0))) := fun W hb _ => by
    rcases (isB_turned hl (Turned.of_below hb (fun _ => False)) (fun _ _ _ _ e => e)).cell with ⟨_, h0⟩ | ⟨b, o, rfl, hc⟩
    · omega
    · exact ⟨b, o, rfl, Nat.lt_of_lt_of_le (hin b o none rfl) hb.size, hc⟩
  have HMIN : Hid (m = Nat.min m (n * 4096)) := by show m = min m (n * 4096); omega
  have HFIT : Hid (0 + m ≤ n * 4096) := by show _ ≤ _; omega
  have hsz : hart0.size = 66 := by kernel_rfl
  clear hl hin
  go_enter Tryz.func37, Tryz.ntmps37
  go_wp2_with fail
  refine wp_region_held_drew (S := fun wq => True) (by kernel_rfl) trivial (fun hH => ?_)
  refine wpAnyH_take (i := 0) (oi := ⟨some 18, _, _, _, _, _⟩) (v := ?_) rfl (by kernel_rfl) (by kernel_rfl) (by kernel_rfl) (fun _ _ _ h => h) (Or.inl ⟨by kernel_rfl, ?_⟩) hH ?_
  rotate_left 1
  · intro wq hq;  first | (go_simp; done) | (go_simp; with_reducible rfl)
  simp only [Act.put, List.setIfInBounds_toArray, List.set_cons_zero, List.set_cons_succ]
  refine wpAnyH_take (i := 1) (oi := ⟨some 19, _, _, _, _, _⟩) (v := ?_) rfl (by kernel_rfl) (by kernel_rfl) (by kernel_rfl) (fun _ _ _ h => h) (Or.inl ⟨by kernel_rfl, ?_⟩) hH ?_
  rotate_left 1
  · intro wq hq;  first | (go_simp; done) | (go_simp; with_reducible rfl)
  simp only [Act.put, List.setIfInBounds_toArray, List.set_cons_zero, List.set_cons_succ]
  refine wpAnyH_take (i := 2) (oi := ⟨some 20, _, _, _, _, _⟩) (v := ?_) rfl (by kernel_rfl) (by kernel_rfl) (by kernel_rfl) (fun _ _ _ h => h) (Or.inl ⟨by kernel_rfl, ?_⟩) hH ?_
  rotate_left 1
  · intro wq hq;  first | (go_simp; done) | (go_simp; with_reducible rfl)
  simp only [Act.put, List.setIfInBounds_toArray, List.set_cons_zero, List.set_cons_succ]
  refine wpAnyH_ready (rs := [3, 4]) (by kernel_rfl) (by simp) (AllReadyH.cons (o := ⟨some 21, _, _, _, _, _⟩) rfl (fun K hK => ?_) (AllReadyH.cons (o := ⟨some 22, _, _, _, _, _⟩) rfl (fun K hK => ?_) (AllReadyH.nil)))
  · go_simp
    refine hK.out _ _ trivial (fun hH => ?_)
    clear hK K
    try simp only [Act.put, List.setIfInBounds_toArray, List.set_cons_zero, List.set_cons_succ]
    refine wpAnyH_ready (rs := [4]) (by kernel_rfl) (by simp) (AllReadyH.cons (o := ⟨some 22, _, _, _, _, _⟩) rfl (fun K hK => ?_) (AllReadyH.nil))
    go_simp
    refine (ref_reset _).mono ?_
    rintro e w2 ⟨rfl, hb2⟩
    have HB2 := Lib.hid hb2
    clear hb2
    go_simp
    refine hK.out _ _ trivial (fun hH => ?_)
    clear hK K
    try simp only [Act.put, List.setIfInBounds_toArray, List.set_cons_zero, List.set_cons_succ]
    refine wpAnyH_take (i := 5) (oi := ⟨some 23, _, _, _, _, _⟩) (v := ?_) rfl (by kernel_rfl) (by kernel_rfl) (by kernel_rfl) (fun _ _ _ h => h) (Or.inl ⟨by kernel_rfl, ?_⟩) hH ?_
    rotate_left 1
    · intro wq hq;  first | (go_simp; done) | (go_simp; with_reducible rfl)
    simp only [Act.put, List.setIfInBounds_toArray, List.set_cons_zero, List.set_cons_succ]
    refine wpAnyH_ready (rs := [6]) (by kernel_rfl) (by simp) (AllReadyH.cons (o := ⟨some 24, _, _, _, _, _⟩) rfl (fun K hK => ?_) (AllReadyH.nil))
    go_simp
    refine hK.out _ _ trivial (fun hH => ?_)
    clear hK K
    try simp only [Act.put, List.setIfInBounds_toArray, List.set_cons_zero, List.set_cons_succ]
    refine wpAnyH_take (i := 7) (oi := ⟨some 6, _, _, _, _, _⟩) (v := ?_) rfl (by kernel_rfl) (by kernel_rfl) (by kernel_rfl) (fun _ _ _ h => h) (Or.inl ⟨by kernel_rfl, ?_⟩) hH ?_
    rotate_left 1
    · intro wq hq;  first | (go_simp; done) | (go_simp; with_reducible rfl)
    simp only [Act.put, List.setIfInBounds_toArray, List.set_cons_zero, List.set_cons_succ]
    refine wpAnyH_done (by kernel_rfl) ?_ _
    clear hH
    rw [ref_arr]
    have HW2 : Below w.heap.size w w2 := below_then ((Below.refl _ _).alloc (Nat.le_refl _) _).drew HB2.out (by simp)
    have hsz2 := HB2.out.size
    simp at hsz2
    have HQ : Hid ((w2.alloc (.cells (refCells n (w.heap.size) hart0L) 62)).heap[w2.heap.size]? = some (.cells (refCells n (w.heap.size) hart0L) 62 (0, 0))) := blk_alloc _ _
    have HS : Hid ((w2.alloc (.cells (refCells n (w.heap.size) hart0L) 62)).rowIs (w.heap.size) 5 (n * 4096) (fun _ => .int .u8 0)) := row_made n _ _ _ (by rw [blk_alloc_old _ _ _ (by omega), HB2.out.block _ (by simp)]; exact blk_alloc w _)
    have HB : Hid (Below w.heap.size w (w2.alloc (.cells (refCells n (w.heap.size) hart0L) 62))) := HW2.alloc (by omega) _
    have HQS : Hid (w.heap.size ≤ w2.heap.size ∧ w.heap.size ≤ w.heap.size ∧ w2.heap.size ≠ w.heap.size) := ⟨by omega, by omega, by omega⟩
    clear HW2 hsz2 HB2
    generalize w2.alloc (.cells (refCells n (w.heap.size) hart0L) 62) = W3 at *
    have c1 : W3.cell? ⟨w2.heap.size, 1, none⟩ = some (.slice (some ⟨w.heap.size, 0, none⟩) (n * 4096) (n * 4096)) := blk_cell HQ.out 1
    have HROW : Hid (IsRow W3 a m (fun i => .int .u8 (l.getD i 0))) := HSRC.out W3 HB.out
    go_wp2_with ((with_reducible refine wpList_copy_row rfl (.tmp 28) (.tmp 29) 22 22 rfl 5 Tryz.underlying22 (by kernel_rfl) (w.heap.size) 0 (n * 4096) (n * 4096) a m c rfl rfl 5 (n * 4096) (fun _ => .int .u8 0) HS m HMIN.out (fun i => .int .u8 (l.getD i 0)) HROW HFIT.out (fun _ _ => rfl) hpos ?_); intro w6 hr6 ht6)
    have HB6 : Hid (Below w.heap.size w w6) := HB.out.trans (ht6.out.below HB.out.size (by rintro _ rfl; exact HQS.out.2.1))
    go_ret2
    refine ⟨w2.heap.size, w.heap.size, rfl, (ht6.out.block _ (blk_lt HQ.out) HQS.out.2.2).trans HQ.out, hr6.out.congr fun i hi => ?_, HQS.out.1, HQS.out.2.1, HQS.out.2.2, HB6.out⟩
    by_cases h : i < m
    · rw [if_pos h, if_pos ⟨Nat.zero_le _, by omega⟩, Nat.sub_zero]
    · rw [if_neg h, if_neg (by omega)]
  · go_simp
    refine (ref_reset _).mono ?_
    rintro e w2 ⟨rfl, hb2⟩
    have HB2 := Lib.hid hb2
    clear hb2
    go_simp
    refine hK.out _ _ trivial (fun hH => ?_)
    clear hK K
    try simp only [Act.put, List.setIfInBounds_toArray, List.set_cons_zero, List.set_cons_succ]
    refine wpAnyH_ready (rs := [3]) (by kernel_rfl) (by simp) (AllReadyH.cons (o := ⟨some 21, _, _, _, _, _⟩) rfl (fun K hK => ?_) (AllReadyH.nil))
    go_simp
    refine hK.out _ _ trivial (fun hH => ?_)
    clear hK K
    try simp only [Act.put, List.setIfInBounds_toArray, List.set_cons_zero, List.set_cons_succ]
    refine wpAnyH_take (i := 5) (oi := ⟨some 23, _, _, _, _, _⟩) (v := ?_) rfl (by kernel_rfl) (by kernel_rfl) (by kernel_rfl) (fun _ _ _ h => h) (Or.inl ⟨by kernel_rfl, ?_⟩) hH ?_
    rotate_left 1
    · intro wq hq;  first | (go_simp; done) | (go_simp; with_reducible rfl)
    simp only [Act.put, List.setIfInBounds_toArray, List.set_cons_zero, List.set_cons_succ]
    refine wpAnyH_ready (rs := [6]) (by kernel_rfl) (by simp) (AllReadyH.cons (o := ⟨some 24, _, _, _, _, _⟩) rfl (fun K hK => ?_) (AllReadyH.nil))
    go_simp
    refine hK.out _ _ trivial (fun hH => ?_)
    clear hK K
    try simp only [Act.put, List.setIfInBounds_toArray, List.set_cons_zero, List.set_cons_succ]
    refine wpAnyH_take (i := 7) (oi := ⟨some 6, _, _, _, _, _⟩) (v := ?_) rfl (by kernel_rfl) (by kernel_rfl) (by kernel_rfl) (fun _ _ _ h => h) (Or.inl ⟨by kernel_rfl, ?_⟩) hH ?_
    rotate_left 1
    · intro wq hq;  first | (go_simp; done) | (go_simp; with_reducible rfl)
    simp only [Act.put, List.setIfInBounds_toArray, List.set_cons_zero, List.set_cons_succ]
    refine wpAnyH_done (by kernel_rfl) ?_ _
    clear hH
    rw [ref_arr]
    have HW2 : Below w.heap.size w w2 := below_then (Below.refl _ _).drew HB2.out (Nat.le_refl _)
    have hsz2 := HB2.out.size
    simp at hsz2
    have HQ : Hid (((w2.alloc (.cells (madeCells #[.int .u8 0] (n * 4096)) 5)).alloc (.cells (refCells n (w2.heap.size) hart0L) 62)).heap[w2.heap.size + 1]? = some (.cells (refCells n (w2.heap.size) hart0L) 62 (0, 0))) := by show _ = _; have := blk_alloc (w2.alloc (.cells (madeCells #[.int .u8 0] (n * 4096)) 5)) (.cells (refCells n (w2.heap.size) hart0L) 62); simpa using this
    have HS : Hid (((w2.alloc (.cells (madeCells #[.int .u8 0] (n * 4096)) 5)).alloc (.cells (refCells n (w2.heap.size) hart0L) 62)).rowIs (w2.heap.size) 5 (n * 4096) (fun _ => .int .u8 0)) := row_made n _ _ _ (by rw [blk_alloc_old _ _ _ (by simp)]; exact blk_alloc w2 _)
    have HB : Hid (Below w.heap.size w ((w2.alloc (.cells (madeCells #[.int .u8 0] (n * 4096)) 5)).alloc (.cells (refCells n (w2.heap.size) hart0L) 62))) := (HW2.alloc (by omega) _).alloc (by simp; omega) _
    have HQS : Hid (w.heap.size ≤ w2.heap.size + 1 ∧ w.heap.size ≤ w2.heap.size ∧ w2.heap.size + 1 ≠ w2.heap.size) := ⟨by omega, by omega, by omega⟩
    clear HW2 hsz2 HB2
    generalize (w2.alloc (.cells (madeCells #[.int .u8 0] (n * 4096)) 5)).alloc (.cells (refCells n (w2.heap.size) hart0L) 62) = W3 at *
    have c1 : W3.cell? ⟨w2.heap.size + 1, 1, none⟩ = some (.slice (some ⟨w2.heap.size, 0, none⟩) (n * 4096) (n * 4096)) := blk_cell HQ.out 1
    have HROW : Hid (IsRow W3 a m (fun i => .int .u8 (l.getD i 0))) := HSRC.out W3 HB.out
    go_wp2_with ((with_reducible refine wpList_copy_row rfl (.tmp 28) (.tmp 29) 22 22 rfl 5 Tryz.underlying22 (by kernel_rfl) (w2.heap.size) 0 (n * 4096) (n * 4096) a m c rfl rfl 5 (n * 4096) (fun _ => .int .u8 0) HS m HMIN.out (fun i => .int .u8 (l.getD i 0)) HROW HFIT.out (fun _ _ => rfl) hpos ?_); intro w6 hr6 ht6)
    have HB6 : Hid (Below w.heap.size w w6) := HB.out.trans (ht6.out.below HB.out.size (by rintro _ rfl; exact HQS.out.2.1))
    go_ret2
    refine ⟨w2.heap.size + 1, w2.heap.size, rfl, (ht6.out.block _ (blk_lt HQ.out) HQS.out.2.2).trans HQ.out, hr6.out.congr fun i hi => ?_, HQS.out.1, HQS.out.2.1, HQS.out.2.2, HB6.out⟩
    by_cases h : i < m
    · rw [if_pos h, if_pos ⟨Nat.zero_le _, by omega⟩, Nat.sub_zero]
    · rw [if_neg h, if_neg (by omega)]

set_option maxHeartbeats 4000000 in
theorem ref24_new0 (n : Nat) (h4 : 4 ≤ n) (h256 : n ≤ 256) (a : Option Addr) (c : Nat) (w : World) (l : List Int) :
    Calls Tryz.prog 37 #[.int .i64 n, .slice a 0 c] w (RefNew w n l 0) := by
  have hmk : ∀ wq, (Instr.makeSlice 22 (.int .i64 (IntKind.i64.wrap ((n : Int) * 4096))) (.int .i64 (IntKind.i64.wrap ((n : Int) * 4096)))).run Tryz.prog wq = .ok (.slice (some ⟨wq.heap.size, 0, none⟩) (n * 4096) (n * 4096)) (wq.alloc (.cells (madeCells #[.int .u8 0] (n * 4096)) 5)) := fun wq => by
    have := run_make_row' (P := Tryz.prog) 22 5 (.int .u8 0) 1 Tryz.underlying22 A_info5 rfl .i64 .i64 (n * 4096) (by omega) (by omega) wq
    rw [show ((n * 4096 : Nat) : Int) = IntKind.i64.wrap ((n : Int) * 4096) by rw [IntKind.wrap_i64]; omega] at this
    exact this
  have hsz : hart0.size = 66 := by kernel_rfl
  go_enter Tryz.func37, Tryz.ntmps37
  go_wp2_with fail
  refine wp_region_held_drew (S := fun wq => True) (by kernel_rfl) trivial (fun hH => ?_)
  refine wpAnyH_take (i := 0) (oi := ⟨some 18, _, _, _, _, _⟩) (v := ?_) rfl (by kernel_rfl) (by kernel_rfl) (by kernel_rfl) (fun _ _ _ h => h) (Or.inl ⟨by kernel_rfl, ?_⟩) hH ?_
  rotate_left 1
  · intro wq hq;  first | (go_simp; done) | (go_simp; with_reducible rfl)
  simp only [Act.put, List.setIfInBounds_toArray, List.set_cons_zero, List.set_cons_succ]
  refine wpAnyH_take (i := 1) (oi := ⟨some 19, _, _, _, _, _⟩) (v := ?_) rfl (by kernel_rfl) (by kernel_rfl) (by kernel_rfl) (fun _ _ _ h => h) (Or.inl ⟨by kernel_rfl, ?_⟩) hH ?_
  rotate_left 1
  · intro wq hq;  first | (go_simp; done) | (go_simp; with_reducible rfl)
  simp only [Act.put, List.setIfInBounds_toArray, List.set_cons_zero, List.set_cons_succ]
  refine wpAnyH_take (i := 2) (oi := ⟨some 20, _, _, _, _, _⟩) (v := ?_) rfl (by kernel_rfl) (by kernel_rfl) (by kernel_rfl) (fun _ _ _ h => h) (Or.inl ⟨by kernel_rfl, ?_⟩) hH ?_
  rotate_left 1
  · intro wq hq;  first | (go_simp; done) | (go_simp; with_reducible rfl)
  simp only [Act.put, List.setIfInBounds_toArray, List.set_cons_zero, List.set_cons_succ]
  refine wpAnyH_ready (rs := [3, 4]) (by kernel_rfl) (by simp) (AllReadyH.cons (o := ⟨some 21, _, _, _, _, _⟩) rfl (fun K hK => ?_) (AllReadyH.cons (o := ⟨some 22, _, _, _, _, _⟩) rfl (fun K hK => ?_) (AllReadyH.nil)))
  · go_simp
    refine hK.out _ _ trivial (fun hH => ?_)
    clear hK K
    try simp only [Act.put, List.setIfInBounds_toArray, List.set_cons_zero, List.set_cons_succ]
    refine wpAnyH_ready (rs := [4]) (by kernel_rfl) (by simp) (AllReadyH.cons (o := ⟨some 22, _, _, _, _, _⟩) rfl (fun K hK => ?_) (AllReadyH.nil))
    go_simp
    refine (ref_reset _).mono ?_
    rintro e w2 ⟨rfl, hb2⟩
    have HB2 := Lib.hid hb2
    clear hb2
    go_simp
    refine hK.out _ _ trivial (fun hH => ?_)
    clear hK K
    try simp only [Act.put, List.setIfInBounds_toArray, List.set_cons_zero, List.set_cons_succ]
    refine wpAnyH_take (i := 5) (oi := ⟨some 23, _, _, _, _, _⟩) (v := ?_) rfl (by kernel_rfl) (by kernel_rfl) (by kernel_rfl) (fun _ _ _ h => h) (Or.inl ⟨by kernel_rfl, ?_⟩) hH ?_
    rotate_left 1
    · intro wq hq;  first | (go_simp; done) | (go_simp; with_reducible rfl)
    simp only [Act.put, List.setIfInBounds_toArray, List.set_cons_zero, List.set_cons_succ]
    refine wpAnyH_ready (rs := [6]) (by kernel_rfl) (by simp) (AllReadyH.cons (o := ⟨some 24, _, _, _, _, _⟩) rfl (fun K hK => ?_) (AllReadyH.nil))
    go_simp
    refine hK.out _ _ trivial (fun hH => ?_)
    clear hK K
    try simp only [Act.put, List.setIfInBounds_toArray, List.set_cons_zero, List.set_cons_succ]
    refine wpAnyH_take (i := 7) (oi := ⟨some 6, _, _, _, _, _⟩) (v := ?_) rfl (by kernel_rfl) (by kernel_rfl) (by kernel_rfl) (fun _ _ _ h => h) (Or.inl ⟨by kernel_rfl, ?_⟩) hH ?_
    rotate_left 1
    · intro wq hq;  first | (go_simp; done) | (go_simp; with_reducible rfl)
    simp only [Act.put, List.setIfInBounds_toArray, List.set_cons_zero, List.set_cons_succ]
    refine wpAnyH_done (by kernel_rfl) ?_ _
    clear hH
    rw [ref_arr]
    have HW2 : Below w.heap.size w w2 := below_then ((Below.refl _ _).alloc (Nat.le_refl _) _).drew HB2.out (by simp)
    have hsz2 := HB2.out.size
    simp at hsz2
    have HQ : Hid ((w2.alloc (.cells (refCells n (w.heap.size) hart0L) 62)).heap[w2.heap.size]? = some (.cells (refCells n (w.heap.size) hart0L) 62 (0, 0))) := blk_alloc _ _
    have HS : Hid ((w2.alloc (.cells (refCells n (w.heap.size) hart0L) 62)).rowIs (w.heap.size) 5 (n * 4096) (fun _ => .int .u8 0)) := row_made n _ _ _ (by rw [blk_alloc_old _ _ _ (by omega), HB2.out.block _ (by simp)]; exact blk_alloc w _)
    have HB : Hid (Below w.heap.size w (w2.alloc (.cells (refCells n (w.heap.size) hart0L) 62))) := HW2.alloc (by omega) _
    have HQS : Hid (w.heap.size ≤ w2.heap.size ∧ w.heap.size ≤ w.heap.size ∧ w2.heap.size ≠ w.heap.size) := ⟨by omega, by omega, by omega⟩
    clear HW2 hsz2 HB2
    generalize w2.alloc (.cells (refCells n (w.heap.size) hart0L) 62) = W3 at *
    have c1 : W3.cell? ⟨w2.heap.size, 1, none⟩ = some (.slice (some ⟨w.heap.size, 0, none⟩) (n * 4096) (n * 4096)) := blk_cell HQ.out 1
    have hcz := copy_zero ⟨w.heap.size, 0, none⟩ (n * 4096) (n * 4096) a c
    go_wp2_with fail
    go_ret2
    refine ⟨w2.heap.size, w.heap.size, rfl, HQ.out, HS.out.congr fun i hi => ?_, HQS.out.1, HQS.out.2.1, HQS.out.2.2, HB.out⟩
    rw [if_neg (by omega)]
  · go_simp
    refine (ref_reset _).mono ?_
    rintro e w2 ⟨rfl, hb2⟩
    have HB2 := Lib.hid hb2
    clear hb2
    go_simp
    refine hK.out _ _ trivial (fun hH => ?_)
    clear hK K
    try simp only [Act.put, List.setIfInBounds_toArray, List.set_cons_zero, List.set_cons_succ]
    refine wpAnyH_ready (rs := [3]) (by kernel_rfl) (by simp) (AllReadyH.cons (o := ⟨some 21, _, _, _, _, _⟩) rfl (fun K hK => ?_) (AllReadyH.nil))
    go_simp
    refine hK.out _ _ trivial (fun hH => ?_)
    clear hK K
    try simp only [Act.put, List.setIfInBounds_toArray, List.set_cons_zero, List.set_cons_succ]
    refine wpAnyH_take (i := 5) (oi := ⟨some 23, _, _, _, _, _⟩) (v := ?_) rfl (by kernel_rfl) (by kernel_rfl) (by kernel_rfl) (fun _ _ _ h => h) (Or.inl ⟨by kernel_rfl, ?_⟩) hH ?_
    rotate_left 1
    · intro wq hq;  first | (go_simp; done) | (go_simp; with_reducible rfl)
    simp only [Act.put, List.setIfInBounds_toArray, List.set_cons_zero, List.set_cons_succ]
    refine wpAnyH_ready (rs := [6]) (by kernel_rfl) (by simp) (AllReadyH.cons (o := ⟨some 24, _, _, _, _, _⟩) rfl (fun K hK => ?_) (AllReadyH.nil))
    go_simp
    refine hK.out _ _ trivial (fun hH => ?_)
    clear hK K
    try simp only [Act.put, List.setIfInBounds_toArray, List.set_cons_zero, List.set_cons_succ]
    refine wpAnyH_take (i := 7) (oi := ⟨some 6, _, _, _, _, _⟩) (v := ?_) rfl (by kernel_rfl) (by kernel_rfl) (by kernel_rfl) (fun _ _ _ h => h) (Or.inl ⟨by kernel_rfl, ?_⟩) hH ?_
    rotate_left 1
    · intro wq hq;  first | (go_simp; done) | (go_simp; with_reducible rfl)
    simp only [Act.put, List.setIfInBounds_toArray, List.set_cons_zero, List.set_cons_succ]
    refine wpAnyH_done (by kernel_rfl) ?_ _
    clear hH
    rw [ref_arr]
    have HW2 : Below w.heap.size w w2 := below_then (Below.refl _ _).drew HB2.out (Nat.le_refl _)
    have hsz2 := HB2.out.size
    simp at hsz2
    have HQ : Hid (((w2.alloc (.cells (madeCells #[.int .u8 0] (n * 4096)) 5)).alloc (.cells (refCells n (w2.heap.size) hart0L) 62)).heap[w2.heap.size + 1]? = some (.cells (refCells n (w2.heap.size) hart0L) 62 (0, 0))) := by show _ = _; have := blk_alloc (w2.alloc (.cells (madeCells #[.int .u8 0] (n * 4096)) 5)) (.cells (refCells n (w2.heap.size) hart0L) 62); simpa using this
    have HS : Hid (((w2.alloc (.cells (madeCells #[.int .u8 0] (n * 4096)) 5)).alloc (.cells (refCells n (w2.heap.size) hart0L) 62)).rowIs (w2.heap.size) 5 (n * 4096) (fun _ => .int .u8 0)) := row_made n _ _ _ (by rw [blk_alloc_old _ _ _ (by simp)]; exact blk_alloc w2 _)
    have HB : Hid (Below w.heap.size w ((w2.alloc (.cells (madeCells #[.int .u8 0] (n * 4096)) 5)).alloc (.cells (refCells n (w2.heap.size) hart0L) 62))) := (HW2.alloc (by omega) _).alloc (by simp; omega) _
    have HQS : Hid (w.heap.size ≤ w2.heap.size + 1 ∧ w.heap.size ≤ w2.heap.size ∧ w2.heap.size + 1 ≠ w2.heap.size) := ⟨by omega, by omega, by omega⟩
    clear HW2 hsz2 HB2
    generalize (w2.alloc (.cells (madeCells #[.int .u8 0] (n * 4096)) 5)).alloc (.cells (refCells n (w2.heap.size) hart0L) 62) = W3 at *
    have c1 : W3.cell? ⟨w2.heap.size + 1, 1, none⟩ = some (.slice (some ⟨w2.heap.size, 0, none⟩) (n * 4096) (n * 4096)) := blk_cell HQ.out 1
    have hcz := copy_zero ⟨w2.heap.size, 0, none⟩ (n * 4096) (n * 4096) a c
    go_wp2_with fail
    go_ret2
    refine ⟨w2.heap.size + 1, w2.heap.size, rfl, HQ.out, HS.out.congr fun i hi => ?_, HQS.out.1, HQS.out.2.1, HQS.out.2.2, HB.out⟩
    rw [if_neg (by omega)]
end Go.Proofs.YtkogjjeoihnjpaaGreat
end
section
set_option linter.unusedVariables false
set_option linter.unusedSimpArgs false
namespace Go.Proofs.YtkogjjeoihnjpaaGreat
open Go.RowKit

/-- what api.Devices holds -/
structure Dev where
  msip : Bool
  mtime : Nat
  cmp : Nat
  pr : Nat → Nat
  pend : Nat
  cla : Nat
  en : Nat → Nat
  th : Nat → Nat
  lines : Nat
  rxa : Option Addr
  rxl : Nat
  rxc : Nat
  txa : Option Addr
  txl : Nat
  txc : Nat
  uen : Nat
  lost : Bool
def Dev.cells (d : Dev) : Array Value := #[.bool d.msip, .int .u64 d.mtime, .int .u64 d.cmp, .int .u32 (d.pr 0), .int .u32 (d.pr 1), .int .u32 (d.pr 2), .int .u32 (d.pr 3), .int .u32 (d.pr 4),
  .int .u32 (d.pr 5), .int .u32 (d.pr 6), .int .u32 (d.pr 7), .int .u32 d.pend, .int .u32 d.cla, .int .u32 (d.en 0), .int .u32 (d.en 1), .int .u32 (d.th 0), .int .u32 (d.th 1), .int .u32 d.lines,
  .slice d.rxa d.rxl d.rxc, .slice d.txa d.txl d.txc, .int .u32 d.uen, .bool d.lost]
/-- every number fits its kind -/
structure Dev.Ok (d : Dev) : Prop where
  pr : ∀ i, i < 8 → d.pr i < 2 ^ 32
  pend : d.pend < 2 ^ 32
  cla : d.cla < 2 ^ 32
  en : ∀ i, i < 2 → d.en i < 2 ^ 32
  th : ∀ i, i < 2 → d.th i < 2 ^ 32
theorem Dev.cell_pr (d : Dev) : ∀ (i : Nat), i < 8 → d.cells[3 + i]? = some (.int .u32 (d.pr i))
  | 0, _ => rfl | 1, _ => rfl | 2, _ => rfl | 3, _ => rfl | 4, _ => rfl | 5, _ => rfl | 6, _ => rfl | 7, _ => rfl
  | n + 8, h => absurd h (by omega)
theorem Dev.cell_en (d : Dev) : ∀ (i : Nat), i < 2 → d.cells[13 + i]? = some (.int .u32 (d.en i))
  | 0, _ => rfl | 1, _ => rfl
  | n + 2, h => absurd h (by omega)
theorem Dev.cell_th (d : Dev) : ∀ (i : Nat), i < 2 → d.cells[15 + i]? = some (.int .u32 (d.th i))
  | 0, _ => rfl | 1, _ => rfl
  | n + 2, h => absurd h (by omega)
def upd (f : Nat → Nat) (i v : Nat) : Nat → Nat := fun j => if j = i then v else f j
theorem Dev.set_pr (d : Dev) (v : Nat) : ∀ (i : Nat), i < 8 → d.cells.setIfInBounds (3 + i) (.int .u32 v) = ({ d with pr := upd d.pr i v } : Dev).cells
  | 0, _ => rfl | 1, _ => rfl | 2, _ => rfl | 3, _ => rfl | 4, _ => rfl | 5, _ => rfl | 6, _ => rfl | 7, _ => rfl
  | n + 8, h => absurd h (by omega)
theorem Dev.set_en (d : Dev) (v : Nat) : ∀ (i : Nat), i < 2 → d.cells.setIfInBounds (13 + i) (.int .u32 v) = ({ d with en := upd d.en i v } : Dev).cells
  | 0, _ => rfl | 1, _ => rfl
  | n + 2, h => absurd h (by omega)
theorem Dev.set_th (d : Dev) (v : Nat) : ∀ (i : Nat), i < 2 → d.cells.setIfInBounds (15 + i) (.int .u32 v) = ({ d with th := upd d.th i v } : Dev).cells
  | 0, _ => rfl | 1, _ => rfl
  | n + 2, h => absurd h (by omega)
theorem Dev.set_pend (d : Dev) (v : Nat) : d.cells.setIfInBounds 11 (.int .u32 v) = ({ d with pend := v } : Dev).cells := rfl
theorem Dev.set_cla (d : Dev) (v : Nat) : d.cells.setIfInBounds 12 (.int .u32 v) = ({ d with cla := v } : Dev).cells := rfl

/-- the best source among 1 .. n of a context -/
def bestTo (x : Nat) (pr : Nat → Nat) : Nat → Nat
  | 0 => 0
  | n + 1 => if x.testBit (n + 1) ∧ pr (bestTo x pr n) < pr (n + 1) then n + 1 else bestTo x pr n
theorem bestTo_le (x : Nat) (pr : Nat → Nat) : ∀ n, bestTo x pr n ≤ n
  | 0 => Nat.le_refl _
  | n + 1 => by unfold bestTo; split; omega; have := bestTo_le x pr n; omega
def Dev.best (d : Dev) (c : Nat) : Nat := bestTo (d.pend &&& d.en c) d.pr 7

/-! bits -/
theorem and32 (a b : Nat) (ha : a < 2 ^ 32) (hb : b < 2 ^ 32) : bits .and .u32 (a : Int) (b : Int) = ((a &&& b : Nat) : Int) := u32_and_nat a b ha hb
theorem and_lt32 {a : Nat} (b : Nat) (ha : a < 2 ^ 32) : a &&& b < 2 ^ 32 := Nat.lt_of_le_of_lt Nat.and_le_left ha
theorem bit32 (x s : Nat) (hx : x < 2 ^ 32) : bits .and .u32 ((x / 2 ^ s : Nat) : Int) 1 = ((x.testBit s).toNat : Int) := by
  have h := u32_and_nat (x / 2 ^ s) 1 (Nat.lt_of_le_of_lt (Nat.div_le_self _ _) hx) (by omega)
  rw [show ((1 : Nat) : Int) = 1 from rfl] at h
  rw [h, Nat.testBit, Nat.shiftRight_eq_div_pow]
  simp only [Nat.and_one_is_mod]
  rcases Nat.mod_two_eq_zero_or_one (x / 2 ^ s) with e | e <;> simp [e, Nat.one_and_eq_mod_two]
theorem bit32i (x s : Nat) (hx : x < 2 ^ 32) : bits .and .u32 ((x : Int) / 2 ^ s) 1 = ((x.testBit s).toNat : Int) := by
  have h := bit32 x s hx
  rw [Int.natCast_ediv, Int.natCast_pow] at h
  exact h
theorem bit_ne (x s : Nat) (hx : x < 2 ^ 32) : (bits .and .u32 ((x : Int) / 2 ^ s) 1 != 0) = x.testBit s := by
  rw [bit32i x s hx]; cases x.testBit s <;> rfl
theorem bit_eq1 (x s : Nat) (hx : x < 2 ^ 32) : (bits .and .u32 ((x : Int) / 2 ^ s) 1 == 1) = x.testBit s := by
  rw [bit32i x s hx]; cases x.testBit s <;> rfl
def andNot32 (a b : Nat) : Nat := a &&& (4294967295 - b)
theorem andNot32_i (a b : Nat) (ha : a < 2 ^ 32) (hb : b < 2 ^ 32) : bits .andNot .u32 (a : Int) (b : Int) = (andNot32 a b : Int) := u32_andNot_nat a b ha hb
theorem or32 (a b : Nat) (ha : a < 2 ^ 32) (hb : b < 2 ^ 32) : bits .or .u32 (a : Int) (b : Int) = ((a ||| b : Nat) : Int) := u32_or_nat a b ha hb
theorem andNot32_lt {a : Nat} (b : Nat) (ha : a < 2 ^ 32) : andNot32 a b < 2 ^ 32 := and_lt32 _ ha
/-- the tick of levels l -/
def Dev.tick (d : Dev) (l : Nat) : Dev := { d with pend := d.pend ||| andNot32 (l &&& 254) d.cla }
theorem Dev.tick_ok (d : Dev) (l : Nat) (hd : d.Ok) (hl : l < 2 ^ 32) : (d.tick l).Ok :=
  ⟨hd.pr, Nat.or_lt_two_pow hd.pend (andNot32_lt _ (and_lt32 _ hl)), hd.cla, hd.en, hd.th⟩
/-- which register stands at an offset: its kind, its number -/
def placeOf (off : Int) : Int × Int :=
  if off = 4096 then (2, 0) else if off = 8192 then (3, 0) else if off = 8320 then (3, 1) else if off = 2097152 then (4, 0) else if off = 2101248 then (4, 1)
  else if off = 2097156 then (5, 0) else if off = 2101252 then (5, 1)
  else if off = 4 then (1, 1) else if off = 8 then (1, 2) else if off = 12 then (1, 3) else if off = 16 then (1, 4) else if off = 20 then (1, 5) else if off = 24 then (1, 6) else if off = 28 then (1, 7)
  else (0, 0)
def pow2 (s : Nat) : Nat := 2 ^ s
theorem pow2_lt {s : Nat} (h : s ≤ 7) : pow2 s < 2 ^ 32 := Nat.pow_lt_pow_right (by omega) (by omega)
theorem shl1_32 {s : Nat} (h : s ≤ 7) : (2 : Int) ^ s % 4294967296 = (pow2 s : Int) := by
  have h1 := pow2_lt h
  have h2 : ((2 : Int) ^ s) = ((pow2 s : Nat) : Int) := by unfold pow2; rw [Int.natCast_pow]; rfl
  rw [h2]
  omega
/-- source s is claimed -/
def Dev.claim (d : Dev) (s : Nat) : Dev := { d with pend := andNot32 d.pend (pow2 s), cla := d.cla ||| pow2 s }
theorem Dev.claim_ok (d : Dev) (s : Nat) (hd : d.Ok) (hs : s ≤ 7) : (d.claim s).Ok :=
  ⟨hd.pr, andNot32_lt _ hd.pend, Nat.or_lt_two_pow hd.cla (pow2_lt hs), hd.en, hd.th⟩
theorem Dev.best_le (d : Dev) (c : Nat) : d.best c ≤ 7 := bestTo_le _ _ _
end Go.Proofs.YtkogjjeoihnjpaaGreat
end
section
set_option linter.unusedVariables false
set_option linter.unusedSimpArgs false
namespace Go.Proofs.YtkogjjeoihnjpaaGreat
open Go.RowKit
def lo32 (v : Nat) : Nat := v &&& 4294967295
def and7 (v : Nat) : Nat := v &&& 7
def and254 (v : Nat) : Nat := v &&& 254
theorem lo32_lt (v : Nat) : lo32 v < 2 ^ 32 := Nat.lt_of_le_of_lt Nat.and_le_right (by omega)
theorem and7_lt (v : Nat) : and7 v < 8 := Nat.lt_of_le_of_lt Nat.and_le_right (by omega)
theorem and254_lt (v : Nat) : and254 v < 255 := Nat.lt_of_le_of_lt Nat.and_le_right (by omega)
theorem lo32_i (v : Nat) (h : v < 2 ^ 64) : bits .and .u64 (v : Int) 4294967295 = (lo32 v : Int) := u64_and_nat v 4294967295 h (by omega)
theorem and7_i (v : Nat) (h : v < 2 ^ 32) : bits .and .u64 (v : Int) 7 = (and7 v : Int) := u64_and_nat v 7 (by omega) (by omega)
theorem and254_i (v : Nat) (h : v < 2 ^ 32) : bits .and .u64 (v : Int) 254 = (and254 v : Int) := u64_and_nat v 254 (by omega) (by omega)
theorem mod32_i (v : Nat) (h : v < 2 ^ 32) : (v : Int) % 4294967296 = (v : Int) := by omega
/-- the completion of source s in context k -/
def Dev.complete (d : Dev) (k s : Nat) : Dev := { d with cla := andNot32 d.cla (d.en k &&& pow2 s) }
theorem upd_lt {f : Nat → Nat} {n i v B : Nat} (hf : ∀ j, j < n → f j < B) (hv : v < B) : ∀ j, j < n → upd f i v j < B := by
  intro j hj; unfold upd; split
  · exact hv
  · exact hf j hj
theorem place_cases (off : Int) : placeOf off = (0, 0) ∨ (∃ k : Nat, 1 ≤ k ∧ k < 8 ∧ placeOf off = (1, (k : Int))) ∨ placeOf off = (2, 0) ∨ (∃ k : Nat, k < 2 ∧ placeOf off = (3, (k : Int))) ∨ (∃ k : Nat, k < 2 ∧ placeOf off = (4, (k : Int))) ∨ (∃ k : Nat, k < 2 ∧ placeOf off = (5, (k : Int))) := by
  by_cases h4096 : off = 4096
  · subst h4096; exact .inr (.inr (.inl rfl))
  by_cases h8192 : off = 8192
  · subst h8192; exact .inr (.inr (.inr (.inl ⟨0, by omega, rfl⟩)))
  by_cases h8320 : off = 8320
  · subst h8320; exact .inr (.inr (.inr (.inl ⟨1, by omega, rfl⟩)))
  by_cases h2097152 : off = 2097152
  · subst h2097152; exact .inr (.inr (.inr (.inr (.inl ⟨0, by omega, rfl⟩))))
  by_cases h2101248 : off = 2101248
  · subst h2101248; exact .inr (.inr (.inr (.inr (.inl ⟨1, by omega, rfl⟩))))
  by_cases h2097156 : off = 2097156
  · subst h2097156; exact .inr (.inr (.inr (.inr (.inr ⟨0, by omega, rfl⟩))))
  by_cases h2101252 : off = 2101252
  · subst h2101252; exact .inr (.inr (.inr (.inr (.inr ⟨1, by omega, rfl⟩))))
  by_cases h4 : off = 4
  · subst h4; exact .inr (.inl ⟨1, by omega, by omega, rfl⟩)
  by_cases h8 : off = 8
  · subst h8; exact .inr (.inl ⟨2, by omega, by omega, rfl⟩)
  by_cases h12 : off = 12
  · subst h12; exact .inr (.inl ⟨3, by omega, by omega, rfl⟩)
  by_cases h16 : off = 16
  · subst h16; exact .inr (.inl ⟨4, by omega, by omega, rfl⟩)
  by_cases h20 : off = 20
  · subst h20; exact .inr (.inl ⟨5, by omega, by omega, rfl⟩)
  by_cases h24 : off = 24
  · subst h24; exact .inr (.inl ⟨6, by omega, by omega, rfl⟩)
  by_cases h28 : off = 28
  · subst h28; exact .inr (.inl ⟨7, by omega, by omega, rfl⟩)
  exact .inl (by unfold placeOf; rw [if_neg h4096, if_neg h8192, if_neg h8320, if_neg h2097152, if_neg h2101248, if_neg h2097156, if_neg h2101252, if_neg h4, if_neg h8, if_neg h12, if_neg h16, if_neg h20, if_neg h24, if_neg h28])
/-- a register read: the number, the error, what is then -/
def Dev.read (d : Dev) (off size : Int) : Nat × Int × Dev :=
  if size = 4 then
    if (placeOf off).1 = 1 then (d.pr (placeOf off).2.toNat, 0, d)
    else if (placeOf off).1 = 2 then (d.pend, 0, d)
    else if (placeOf off).1 = 3 then (d.en (placeOf off).2.toNat, 0, d)
    else if (placeOf off).1 = 4 then (d.th (placeOf off).2.toNat, 0, d)
    else if (placeOf off).1 = 5 then (d.best (placeOf off).2.toNat, 0, if d.best (placeOf off).2.toNat = 0 then d else d.claim (d.best (placeOf off).2.toNat))
    else (0, 6, d)
  else (0, 6, d)
/-- a register written: the error, what is then -/
def Dev.write (d : Dev) (off size : Int) (v : Nat) : Int × Dev :=
  if size = 4 then
    if (placeOf off).1 = 1 then (0, { d with pr := upd d.pr (placeOf off).2.toNat (and7 (lo32 v)) })
    else if (placeOf off).1 = 3 then (0, { d with en := upd d.en (placeOf off).2.toNat (and254 (lo32 v)) })
    else if (placeOf off).1 = 4 then (0, { d with th := upd d.th (placeOf off).2.toNat (and7 (lo32 v)) })
    else if (placeOf off).1 = 5 then (0, if 1 ≤ lo32 v ∧ lo32 v ≤ 7 then d.complete (placeOf off).2.toNat (lo32 v) else d)
    else (6, d)
  else (6, d)
theorem Dev.read_ok (d : Dev) (hd : d.Ok) (off size : Int) : (d.read off size).2.2.Ok ∧ (d.read off size).1 < 2 ^ 32 := by
  unfold Dev.read
  by_cases hs : size = 4
  · rw [if_pos hs]
    rcases place_cases off with h | ⟨k, h1, h2, h⟩ | h | ⟨k, h2, h⟩ | ⟨k, h2, h⟩ | ⟨k, h2, h⟩ <;> simp only [h, Int.toNat_natCast, if_pos, if_neg, reduceIte, Int.reduceEq]
    · exact ⟨hd, by omega⟩
    · exact ⟨hd, hd.pr k h2⟩
    · exact ⟨hd, hd.pend⟩
    · exact ⟨hd, hd.en k h2⟩
    · exact ⟨hd, hd.th k h2⟩
    · have := d.best_le k
      refine ⟨?_, by omega⟩
      split
      · exact hd
      · exact d.claim_ok _ hd this
  · rw [if_neg hs]; exact ⟨hd, by omega⟩
theorem Dev.write_ok (d : Dev) (hd : d.Ok) (off size : Int) (v : Nat) : (d.write off size v).2.Ok := by
  unfold Dev.write
  by_cases hs : size = 4
  · rw [if_pos hs]
    have a7 := and7_lt (lo32 v)
    have a254 := and254_lt (lo32 v)
    rcases place_cases off with h | ⟨k, h1, h2, h⟩ | h | ⟨k, h2, h⟩ | ⟨k, h2, h⟩ | ⟨k, h2, h⟩ <;> simp only [h, Int.toNat_natCast, if_pos, if_neg, reduceIte, Int.reduceEq]
    · exact hd
    · exact ⟨upd_lt hd.pr (by omega), hd.pend, hd.cla, hd.en, hd.th⟩
    · exact hd
    · exact ⟨hd.pr, hd.pend, hd.cla, upd_lt hd.en (by omega), hd.th⟩
    · exact ⟨hd.pr, hd.pend, hd.cla, hd.en, upd_lt hd.th (by omega)⟩
    · split
      · exact ⟨hd.pr, hd.pend, andNot32_lt _ hd.cla, hd.en, hd.th⟩
      · exact hd
  · rw [if_neg hs]; exact hd
end Go.Proofs.YtkogjjeoihnjpaaGreat
end
section
set_option linter.unusedVariables false
set_option linter.unusedSimpArgs false
namespace Go.Proofs.YtkogjjeoihnjpaaGreat
open Go.RowKit

/-- the cells of block g -/
def rowOf (w : World) (g : Nat) : Array Value := match w.heap[g]? with | some (.cells c _ _) => c | _ => #[]
/-- block g has n cells, none of them frozen -/
def rowIs (w : World) (g n : Nat) : Bool := match w.heap[g]? with | some (.cells c _ (lo, hi)) => c.size == n && lo == 0 && hi == 0 | _ => false
def loadS (t : TypeId) (x : Value) : Sem Value := Instr.loadAt t x
def storeS (t : TypeId) (x v : Value) : Sem Unit := Instr.storeAt t x v
theorem rowIs_of {w : World} {g : Nat} {C : Array Value} {t : TypeId} (h : w.heap[g]? = some (.cells C t (0, 0))) : rowIs w g C.size = true := by simp [rowIs, h]
theorem rowOf_of {w : World} {g : Nat} {C : Array Value} {t : TypeId} {fz : Nat × Nat} (h : w.heap[g]? = some (.cells C t fz)) : rowOf w g = C := by simp [rowOf, h]
theorem rowIs_elim {w : World} {g n : Nat} (h : rowIs w g n = true) : ∃ t, w.heap[g]? = some (.cells (rowOf w g) t (0, 0)) ∧ (rowOf w g).size = n := by
  unfold rowIs at h
  split at h
  · rename_i c t lo hi hh
    simp at h
    obtain ⟨⟨h1, h2⟩, h3⟩ := h
    subst h2 h3
    exact ⟨t, by rw [rowOf_of hh]; exact hh, by rw [rowOf_of hh]; exact h1⟩
  · cases h
theorem run_loadS (P : Program) (ty : TypeId) (d : TypeDesc) (n : Nat) (hu : P.underlying ty = some d) (hd : (match d with | .struct _ | .array _ _ => true | _ => false) = true) (hi : (P.info? ty).map (·.size) = some n)
    (w : World) (g : Nat) (h : rowIs w g n = true) : (loadS ty (.pointer (some ⟨g, 0, none⟩))).run P w = .ok (.agg (rowOf w g)) w := by
  obtain ⟨t, hh, hs⟩ := rowIs_elim h
  have := run_loadVar_row (P := P) w g t ty (rowOf w g) (0, 0) d hh hu hd (by rw [hs]; exact hi)
  simp only [loadS, Instr.loadAt, Instr.sureAddr, Sem.run_bind, Sem.run_pure, Result.andThen_ok, this]
theorem run_storeS (P : Program) (ty : TypeId) (n : Nat) (hi : (P.info? ty).map (·.size) = some n)
    (w : World) (g : Nat) (C : Array Value) (h : rowIs w g n = true) (hC : C.size = n) (h1 : C.all (·.oneCell') = true) : (storeS ty (.pointer (some ⟨g, 0, none⟩)) (.agg C)).run P w = .ok () (w.setRow g C) := by
  obtain ⟨t, hh, hs⟩ := rowIs_elim h
  have := run_storeVar_row (P := P) w g t ty (rowOf w g) C hh (by rw [hC]; exact hi) (by rw [hC]; exact hs) h1
  simp only [storeS, Instr.storeAt, Instr.sureAddr, Sem.run_bind, Sem.run_pure, Result.andThen_ok, this]

/-! what a world's steps do to rows -/
theorem row_alloc_new (w : World) (C : Array Value) (t : TypeId) (fz : Nat × Nat) : rowOf (w.alloc (.cells C t fz)) w.heap.size = C := rowOf_of (blk_alloc w _)
theorem row_alloc_old (w : World) (o : Obj) (g : Nat) (h : g < w.heap.size) : rowOf (w.alloc o) g = rowOf w g := by unfold rowOf; rw [blk_alloc_old w o g h]
theorem row_drew (w : World) (g : Nat) : rowOf w.drew g = rowOf w g := rfl
theorem row_drewN (w : World) (n g : Nat) : rowOf (w.drewN n) g = rowOf w g := rfl
theorem is_alloc_new (w : World) (C : Array Value) (t : TypeId) (n : Nat) : rowIs (w.alloc (.cells C t)) w.heap.size n = (C.size == n) := by unfold rowIs; rw [blk_alloc]; simp
theorem is_alloc_old (w : World) (o : Obj) (g n : Nat) (h : g < w.heap.size) : rowIs (w.alloc o) g n = rowIs w g n := by unfold rowIs; rw [blk_alloc_old w o g h]
theorem is_drew (w : World) (g n : Nat) : rowIs w.drew g n = rowIs w g n := rfl
theorem is_drewN (w : World) (k g n : Nat) : rowIs (w.drewN k) g n = rowIs w g n := rfl
theorem row_setCell (w : World) (b o : Nat) (v : Value) (g : Nat) : rowOf (w.setCell ⟨b, o, none⟩ v) g = if b = g then (rowOf w g).setIfInBounds o v else rowOf w g := by
  by_cases h : b = g
  · subst h
    rw [if_pos rfl]
    unfold rowOf
    simp only [World.setCell, Array.getElem?_modify, if_true]
    cases hh : w.heap[b]? with
    | none => simp
    | some ob => cases ob <;> simp
  · rw [if_neg h]
    unfold rowOf
    rw [blk_set_ne _ _ h]
theorem is_setCell (w : World) (a : Addr) (v : Value) (g n : Nat) : rowIs (w.setCell a v) g n = rowIs w g n := by
  by_cases h : a.block = g
  · subst h
    unfold rowIs
    simp only [World.setCell, Array.getElem?_modify, if_true]
    cases hh : w.heap[a.block]? with
    | none => simp
    | some ob => cases ob <;> simp; split <;> simp
  · unfold rowIs
    rw [blk_set_ne _ _ h]
theorem row_setRow_same (w : World) (g n : Nat) (C : Array Value) (h : rowIs w g n = true) : rowOf (w.setRow g C) g = C := by
  obtain ⟨t, hh, _⟩ := rowIs_elim h
  exact rowOf_of (setRow_heap w g _ C t (0, 0) hh)
theorem row_setRow_other (w : World) (g k : Nat) (C : Array Value) (h : k ≠ g) : rowOf (w.setRow g C) k = rowOf w k := by unfold rowOf; rw [setRow_other w g k C h]
theorem is_setRow_other (w : World) (g k n : Nat) (C : Array Value) (h : k ≠ g) : rowIs (w.setRow g C) k n = rowIs w k n := by unfold rowIs; rw [setRow_other w g k C h]
theorem is_setRow_same (w : World) (g m n : Nat) (C : Array Value) (h : rowIs w g m = true) : rowIs (w.setRow g C) g n = (C.size == n) := by
  obtain ⟨t, hh, _⟩ := rowIs_elim h
  simp [rowIs, setRow_heap w g _ C t (0, 0) hh]
/-- a row stored into the block laid last: in that block's own literal -/
theorem setRow_alloc_new (w : World) (C D : Array Value) (t : TypeId) (fz : Nat × Nat) : (w.alloc (.cells C t fz)).setRow w.heap.size D = w.alloc (.cells D t fz) := by
  simp only [World.setRow, World.alloc]
  congr 1
  apply Array.ext_getElem?
  intro i
  rw [Array.getElem?_modify, Array.getElem?_push, Array.getElem?_push]
  by_cases h : w.heap.size = i
  · subst h; simp
  · rw [if_neg h, if_neg (by omega), if_neg (by omega)]
/-- the cells of an object -/
def objRow : Obj → Array Value | .cells c _ _ => c | _ => #[]
def objIs (n : Nat) : Obj → Bool | .cells c _ (lo, hi) => c.size == n && lo == 0 && hi == 0 | _ => false
theorem objRow_cells (C : Array Value) (t : TypeId) (fz : Nat × Nat) : objRow (.cells C t fz) = C := rfl
theorem objIs_cells (n : Nat) (C : Array Value) (t : TypeId) : objIs n (.cells C t) = (C.size == n) := by simp [objIs]
theorem row_alloc (w : World) (o : Obj) (g : Nat) : rowOf (w.alloc o) g = if g = w.heap.size then objRow o else rowOf w g := by
  by_cases h : g = w.heap.size
  · subst h; rw [if_pos rfl]; unfold rowOf; rw [blk_alloc]; cases o <;> rfl
  · rw [if_neg h]
    unfold rowOf
    have : (w.alloc o).heap[g]? = w.heap[g]? := by
      show (w.heap.push o)[g]? = _
      rw [Array.getElem?_push, if_neg h]
    rw [this]
theorem is_alloc (w : World) (o : Obj) (g n : Nat) : rowIs (w.alloc o) g n = if g = w.heap.size then objIs n o else rowIs w g n := by
  by_cases h : g = w.heap.size
  · subst h; rw [if_pos rfl]; unfold rowIs; rw [blk_alloc]; cases o <;> rfl
  · rw [if_neg h]
    unfold rowIs
    have : (w.alloc o).heap[g]? = w.heap[g]? := by
      show (w.heap.push o)[g]? = _
      rw [Array.getElem?_push, if_neg h]
    rw [this]
/-- each value is of one cell -/
def oneAll (C : Array Value) : Bool := C.all (·.oneCell')
/-- a row that fills n cells -/
def stOk (n : Nat) (C : Array Value) : Bool := C.size == n && C.all (·.oneCell')
theorem run_storeS' (P : Program) (ty : TypeId) (n : Nat) (hi : (P.info? ty).map (·.size) = some n)
    (w : World) (g : Nat) (C : Array Value) (h : rowIs w g n = true) (hC : stOk n C = true) : (storeS ty (.pointer (some ⟨g, 0, none⟩)) (.agg C)).run P w = .ok () (w.setRow g C) := by
  simp only [stOk, Bool.and_eq_true, beq_iff_eq] at hC
  exact run_storeS P ty n hi w g C h hC.1 hC.2
theorem run_loadV (P : Program) (ty : TypeId) (d : TypeDesc) (n : Nat) (hu : P.underlying ty = some d) (hd : (match d with | .struct _ | .array _ _ => true | _ => false) = true) (hi : (P.info? ty).map (·.size) = some n)
    (w : World) (g : Nat) (C : Array Value) (h : rowIs w g n = true) (hC : rowOf w g = C) : (loadVar ty ⟨g, 0, none⟩).run P w = .ok (.agg C) w := by
  obtain ⟨t, hh, hs⟩ := rowIs_elim h
  have := run_loadVar_row (P := P) w g t ty (rowOf w g) (0, 0) d hh hu hd (by rw [hs]; exact hi)
  rw [this, hC]
section
variable {fn : Func} {a p b : Tmp} {ty : TypeId} (tmps : Array Value) (P : Program) (w : World) (g : Nat) (C : Array Value)
  (hp : tmps.getD p undef = .pointer (some ⟨g, 0, none⟩)) (hl : (loadVar ty ⟨g, 0, none⟩).run P w = .ok (.agg C) w)
include hp hl
theorem res_c (h : fn.results = #[.cell p ty]) : (results fn tmps).run P w = .ok (.agg C) w := by
  have hp' : tmps[p]?.getD undef = .pointer (some ⟨g, 0, none⟩) := by simpa using hp
  simp [results, h, hp', asAddr, hl]
theorem res_ct (h : fn.results = #[.cell p ty, .tmp b]) : (results fn tmps).run P w = .ok (.tuple #[.agg C, tmps.getD b undef]) w := by
  have hp' : tmps[p]?.getD undef = .pointer (some ⟨g, 0, none⟩) := by simpa using hp
  simp [results, h, hp', asAddr, hl]
theorem res_tct (h : fn.results = #[.tmp a, .cell p ty, .tmp b]) : (results fn tmps).run P w = .ok (.tuple #[tmps.getD a undef, .agg C, tmps.getD b undef]) w := by
  have hp' : tmps[p]?.getD undef = .pointer (some ⟨g, 0, none⟩) := by simpa using hp
  simp [results, h, hp', asAddr, hl]
end
/-! quiet calls behind draws -/
theorem q_same {P : Program} {f : FuncId} {args : Array Value} {w : World} {a n : Nat} {v : Value} (h : Calls P f args (w.drewN (a + n)) fun e w' => e = .returned v ∧ w' = w.drewN (a + n)) :
    Calls P f args (w.drewN (a + n)) fun e w' => e = .returned v ∧ ∃ m, w' = w.drewN (a + m) := h.mono fun _ _ hh => ⟨hh.1, n, hh.2⟩
theorem q_draws {P : Program} {f : FuncId} {args : Array Value} {w : World} {a n : Nat} {v : Value} (h : Calls P f args (w.drewN (a + n)) fun e w' => e = .returned v ∧ ∃ m, w' = (w.drewN (a + n)).drewN m) :
    Calls P f args (w.drewN (a + n)) fun e w' => e = .returned v ∧ ∃ m, w' = w.drewN (a + m) := h.mono fun _ _ hh => by
  obtain ⟨h1, m, h2⟩ := hh
  exact ⟨h1, n + m, by rw [h2, World.drewN_drewN, Nat.add_assoc]⟩
end Go.Proofs.YtkogjjeoihnjpaaGreat
end
section
set_option linter.unusedVariables false
set_option linter.unusedSimpArgs false
namespace Go.Proofs.YtkogjjeoihnjpaaGreat
open Go.RowKit
set_option maxRecDepth 100000 in
set_option maxHeartbeats 2000000 in
theorem copy_bytes (a : Option Addr) (m c : Nat) (l : List Int) (w : World) (h : IsB w a m l) (hm : (m : Int) ≤ 140737488355328) :
    Calls Tryz.prog 36 #[.slice a m c] w fun e w' => ∃ v, e = .returned v ∧ w'.ownsRow w.heap.size 5 1 v m (l.map (Value.int .u8)) ∧ Below w.heap.size w w' := by
  have hsrc : Hid (SrcIs w a m (l.map (Value.int .u8))) := by
    refine ⟨by rw [List.length_map]; exact h.hlen, h.cell.imp id ?_⟩
    rintro ⟨b, o, rfl, hc⟩
    refine ⟨b, o, rfl, fun i hi => ?_⟩
    have hl := h.hlen
    rw [hc i hi]
    simp [List.getD, hl, hi]
  have hone : Hid (∀ u ∈ l.map (Value.int .u8), u.oneCell' = true) := by intro u hu; simp at hu; obtain ⟨_, _, rfl⟩ := hu; rfl
  clear h
  go_enter Tryz.func36, Tryz.ntmps36
  go_wp2_with (at_builtin; refine wpList_app rfl _ _ 22 rfl w.heap.size 5 (.int .u8 0) 1 Tryz.underlying22 A_info5 rfl (.slice none 0 0) 0 [] rfl (World.ownsRow_nil _ _ _ _) a m c (l.map (Value.int .u8)) rfl hsrc.out hone.out (by omega) (by unfold maxLen; omega) (Nat.le_refl _) ?_; intro v' w2 hown hg _)
  all_goals
    have HO := Lib.hid hown
    have HG := Lib.hid hg
    clear hown hg
    go_ret
    refine ⟨v', rfl, by have := HO.out; simpa using this, (Below.refl _ _).grown HG.out (Nat.le_refl _) (by intro k hk; cases hk)⟩
end Go.Proofs.YtkogjjeoihnjpaaGreat
end
section
set_option linter.unusedVariables false
set_option linter.unusedSimpArgs false
namespace Go.Proofs.YtkogjjeoihnjpaaGreat
open Go.RowKit Sx
set_option maxRecDepth 100000
/-- how many pages -/
def pagesN (n : Int) : Nat := 4 + ((IntKind.u64.wrap n) % 5).toNat
theorem pagesN_bd (n : Int) : 4 ≤ pagesN n ∧ pagesN n ≤ 8 := by
  unfold pagesN
  have : 0 ≤ IntKind.u64.wrap n := by rw [IntKind.wrap_u64]; omega
  omega
set_option maxHeartbeats 1000000 in
theorem law_pages (n : Int) (w : World) : Calls Tryz.prog 35 #[.int .i64 n] w fun e w' => e = .returned (.int .i64 (pagesN n : Nat)) ∧ w = w' := by
  have h0 : 0 ≤ IntKind.u64.wrap n := by rw [IntKind.wrap_u64]; omega
  have HP : Hid ((pagesN n : Int) = 4 + IntKind.u64.wrap n % 5) := by show _ = _; unfold pagesN; omega
  generalize pagesN n = N at *
  generalize hW : IntKind.u64.wrap n = W at *
  have HW := Lib.hid hW
  clear hW
  go_enter Tryz.func35, Tryz.ntmps35
  go_wp2_with fail
  have e1 : (IntKind.u64.wrap n).tmod 5 = W % 5 := by rw [HW.out, Int.tmod_eq_emod_of_nonneg h0]
  have e2 : wrap64 (W % 5) = W % 5 := by unfold wrap64; omega
  have e3 : wrap64 (4 + W % 5) = 4 + W % 5 := by unfold wrap64; omega
  go_ret
  refine ⟨?_, rfl⟩
  show Ending.returned (Value.int .i64 (wrap64 (4 + wrap64 ((IntKind.u64.wrap n).tmod 5)))) = _
  rw [e1, e2, e3, HP.out]
theorem own_lt {w : World} {base : Nat} {v : Value} {n : Nat} {vs : List Value} (h : w.ownsRow base 5 1 v n vs) : ∀ b o s m c, v = .slice (some ⟨b, o, s⟩) m c → b < w.heap.size := by
  intro b o s m c hv
  rcases h.2 with ⟨h, _⟩ | ⟨g, cap, cur, h, hg, hcur, _⟩
  · rw [h] at hv; cases hv
  · rw [h] at hv; cases hv; exact blk_lt hcur
/-- a pair that is made: both machines over what they are made of -/
structure PairIs (w : World) (B N : Nat) (q p b mq sb : Nat) (S : Nat → Prop) (h hr : List Int) (ct : Nat → Nat) (f : Nat → Value) : Prop where
  pair : w.heap[q]? = some (.cells #[.pointer (some ⟨p, 0, none⟩), .pointer (some ⟨mq, 0, none⟩)] 34 (0, 0))
  mach : MachAt w p b (cksV hartC h)
  ram : RamAt w b N ct S
  ref : w.heap[mq]? = some (.cells (refCells N sb hr) 62 (0, 0))
  row : w.rowIs sb 5 (N * 4096) f
  pb : p ≠ b
  pS : ¬ S p
  own : ∀ g, S g → B ≤ g
  b_ : B ≤ b
  p_ : B ≤ p
  mq_ : B ≤ mq
  sb_ : B ≤ sb
  q_ : B ≤ q
  /-- the others are none of the machine's blocks -/
  apq : q ≠ p ∧ q ≠ b ∧ ¬ S q
  apm : mq ≠ p ∧ mq ≠ b ∧ ¬ S mq
  aps : sb ≠ p ∧ sb ≠ b ∧ ¬ S sb
  ne : q ≠ mq ∧ q ≠ sb ∧ mq ≠ sb
/-- what made answers -/
def MadeIs (w : World) (N : Nat) (l : List Int) (k : Nat) (e : Ending) (w' : World) : Prop :=
  ∃ q p b mq sb S, e = .returned (.pointer (some ⟨q, 0, none⟩)) ∧ PairIs w' w.heap.size N q p b mq sb S hart0L hart0L (putTo (fun _ => 0) 0 (fun i => (l.getD i 0).toNat) (fun _ => true) k) (fun i => .int .u8 (if i < k then l.getD i 0 else 0)) ∧ Below w.heap.size w w'
theorem ref24_new_any (n : Nat) (h4 : 4 ≤ n) (h256 : n ≤ 256) (a : Option Addr) (m c : Nat) (hm : (m : Int) ≤ (n : Int) * 4096) (w : World) (l : List Int) (hl : IsB w a m l) (hin : ∀ b o s, a = some ⟨b, o, s⟩ → b < w.heap.size) :
    Calls Tryz.prog 37 #[.int .i64 n, .slice a m c] w (RefNew w n l m) := by
  by_cases h0 : m = 0
  · subst h0; exact ref24_new0 n h4 h256 a c w l
  · exact ref24_new n h4 h256 a m c hm w l hl hin (by omega)
set_option maxHeartbeats 2000000 in
theorem made_short (n : Int) (a : Option Addr) (m c : Nat) (w : World) (l : List Int) (hl : IsB w a m l) (hin : ∀ b o s, a = some ⟨b, o, s⟩ → b < w.heap.size) (hm : (m : Int) ≤ 16384) :
    Calls Tryz.prog 14 #[.int .i64 n, .slice a m c] w (MadeIs w (pagesN n) l m) := by
  have HPG := Lib.hid (law_pages n)
  obtain ⟨hN4, hN8⟩ := pagesN_bd n
  generalize pagesN n = N at *
  have HN := Lib.hid (And.intro hN4 hN8)
  have HCP := Lib.hid (fun w => copy_bytes a m c (l) w)
  have HIB : Hid (IsB w a m (l)) := hl
  have HIN := Lib.hid hin
  have HK : Hid ((m : Nat) ≤ 16384) := by show _ ≤ _; omega
  clear hN4 hN8 hin hl
  go_enter Tryz.func14, Tryz.ntmps14
  go_wp2_with fail
  refine (HPG.out _).mono ?_
  rintro e w0 ⟨rfl, rfl⟩
  go_wp2_with fail
  refine (HCP.out _ HIB.out (by have := HK.out; omega)).mono ?_
  rintro e w1 ⟨v, rfl, hown, hb⟩
  have hlt := own_lt hown
  obtain ⟨a1, c1, rfl, hib⟩ := bytes_own hown HIB.out.bd
  have HB1 := Lib.hid hb
  have HNEW := Lib.hid (isa_new N HN.out.1 (by have := HN.out.2; omega) a1 m c1 (by have := HK.out; have := HN.out.1; omega) w1 (l) hib (fun S hS b o s e hs => by have := hlt b o s _ _ (by rw [e]); have := hS b hs; omega))
  clear hb hown hlt hib
  go_wp2_with fail
  refine HNEW.out.mono ?_
  rintro e w2 ⟨p, b, S, rfl, hm1, hm2, hpb, hpS, hS, hb_, hp_, hb2⟩
  have HM := Lib.hid hm1
  have HR := Lib.hid hm2
  have HB2 : Hid (Below w.heap.size w w2) := below_then HB1.out hb2 HB1.out.size
  have HAP : Hid (p ≠ b ∧ ¬ S p ∧ (∀ g, S g → w.heap.size ≤ g) ∧ w.heap.size ≤ b ∧ w.heap.size ≤ p) := by
    have h1 := HB1.out.size
    exact ⟨hpb, hpS, fun g hg => by have := hS g hg; omega, by omega, by omega⟩
  clear hm1 hm2 hpb hpS hS hb_ hp_ hb2 HNEW HB1
  go_wp2_with fail
  refine (HPG.out _).mono ?_
  rintro e w0 ⟨rfl, rfl⟩
  go_wp2_with fail
  refine (ref24_new_any N HN.out.1 (by have := HN.out.2; omega) a m c (by have := HK.out; have := HN.out.1; omega) w2 (l) (isB_turned HIB.out (Turned.of_below HB2.out (fun _ => False)) (fun _ _ _ _ e => e)) (fun b o s e => by have := HIN.out b o s e; have := HB2.out.size; omega)).mono ?_
  rintro e w3 ⟨mq, sb, rfl, hq, hrow, hmq, hsb, hne, hb3⟩
  have HB3 : Hid (Below w.heap.size w w3) := below_then HB2.out hb3 HB2.out.size
  have HM3 := Lib.hid (HM.out.below hb3)
  have HR3 := Lib.hid (HR.out.below hb3)
  have HQ := Lib.hid hq
  have HROW := Lib.hid hrow
  have HLT : Hid (p < w2.heap.size ∧ b < w2.heap.size ∧ (∀ g, S g → g < w2.heap.size) ∧ w2.heap.size ≤ mq ∧ w2.heap.size ≤ sb ∧ mq ≠ sb ∧ w2.heap.size ≤ w3.heap.size ∧ mq < w3.heap.size ∧ sb < w3.heap.size) := ⟨blk_lt HM.out.2, HR.out.self.2, fun g hg => HR.out.lt hg, hmq, hsb, hne, hb3.size, blk_lt hq, hrow.lt⟩
  clear hq hrow hmq hsb hne hb3 HM HR
  go_wp2_with fail
  go_ret
  have hs2 := HB2.out.size
  obtain ⟨l1, l2, l3, l4, l5, l6, l7, l8, l9⟩ := HLT.out
  obtain ⟨a1, a2, a3, a4, a5⟩ := HAP.out
  have hal := (Below.refl w3.heap.size w3).alloc (Nat.le_refl _) (Obj.cells #[Value.pointer (some ⟨p, 0, none⟩), .pointer (some ⟨mq, 0, none⟩)] 34)
  refine ⟨w3.heap.size, p, b, mq, sb, S, rfl, ⟨blk_alloc _ _, HM3.out.below hal, HR3.out.below hal, (hal.block _ l8).trans HQ.out, HROW.out.of_block (hal.block _ l9), a1, a2, a3, a4, a5, by omega, by omega, by omega, ⟨by omega, by omega, fun h => by have := l3 _ h; omega⟩, ⟨by omega, by omega, fun h => by have := l3 _ h; omega⟩, ⟨by omega, by omega, fun h => by have := l3 _ h; omega⟩, ⟨by omega, by omega, l6⟩⟩, HB3.out.alloc (by omega) _⟩
set_option maxHeartbeats 2000000 in
theorem made_long (n : Int) (a : Option Addr) (m c : Nat) (w : World) (l : List Int) (hl : IsB w a m l) (hin : ∀ b o s, a = some ⟨b, o, s⟩ → b < w.heap.size) (hm : (16384 : Int) < m) (hc : m ≤ c) :
    Calls Tryz.prog 14 #[.int .i64 n, .slice a m c] w (MadeIs w (pagesN n) (l.take 16384) 16384) := by
  have HPG := Lib.hid (law_pages n)
  obtain ⟨hN4, hN8⟩ := pagesN_bd n
  generalize pagesN n = N at *
  have HN := Lib.hid (And.intro hN4 hN8)
  have HCP := Lib.hid (fun w => copy_bytes a 16384 c (l.take 16384) w)
  have HIB : Hid (IsB w a 16384 (l.take 16384)) := by
    refine ⟨by rw [List.length_take, hl.hlen]; omega, fun x hx => hl.bd x (List.mem_of_mem_take hx), ?_⟩
    rcases hl.cell with ⟨_, h0⟩ | ⟨b, o, h1, h2⟩
    · omega
    · refine .inr ⟨b, o, h1, fun i hi => ?_⟩
      rw [h2 i (by omega)]
      simp [List.getD, hi]

  have HIN := Lib.hid hin
  have HK : Hid ((16384 : Nat) ≤ 16384) := Nat.le_refl _
  obtain ⟨ab, ao, rfl⟩ : ∃ ab ao, a = some ⟨ab, ao, none⟩ := by
    rcases hl.cell with ⟨_, h0⟩ | ⟨b, o, h1, h2⟩
    · omega
    · exact ⟨b, o, h1⟩
  have hc' : (16384 : Int) ≤ c := by omega
  clear hN4 hN8 hin hl
  go_enter Tryz.func14, Tryz.ntmps14
  go_wp2_with fail
  refine (HPG.out _).mono ?_
  rintro e w0 ⟨rfl, rfl⟩
  go_wp2_with fail
  refine (HCP.out _ HIB.out (by have := HK.out; omega)).mono ?_
  rintro e w1 ⟨v, rfl, hown, hb⟩
  have hlt := own_lt hown
  obtain ⟨a1, c1, rfl, hib⟩ := bytes_own hown HIB.out.bd
  have HB1 := Lib.hid hb
  have HNEW := Lib.hid (isa_new N HN.out.1 (by have := HN.out.2; omega) a1 16384 c1 (by have := HK.out; have := HN.out.1; omega) w1 (l.take 16384) hib (fun S hS b o s e hs => by have := hlt b o s _ _ (by rw [e]); have := hS b hs; omega))
  clear hb hown hlt hib
  go_wp2_with fail
  refine HNEW.out.mono ?_
  rintro e w2 ⟨p, b, S, rfl, hm1, hm2, hpb, hpS, hS, hb_, hp_, hb2⟩
  have HM := Lib.hid hm1
  have HR := Lib.hid hm2
  have HB2 : Hid (Below w.heap.size w w2) := below_then HB1.out hb2 HB1.out.size
  have HAP : Hid (p ≠ b ∧ ¬ S p ∧ (∀ g, S g → w.heap.size ≤ g) ∧ w.heap.size ≤ b ∧ w.heap.size ≤ p) := by
    have h1 := HB1.out.size
    exact ⟨hpb, hpS, fun g hg => by have := hS g hg; omega, by omega, by omega⟩
  clear hm1 hm2 hpb hpS hS hb_ hp_ hb2 HNEW HB1
  go_wp2_with fail
  refine (HPG.out _).mono ?_
  rintro e w0 ⟨rfl, rfl⟩
  go_wp2_with fail
  refine (ref24_new_any N HN.out.1 (by have := HN.out.2; omega) (some ⟨ab, ao, none⟩) 16384 c (by have := HK.out; have := HN.out.1; omega) w2 (l.take 16384) (isB_turned HIB.out (Turned.of_below HB2.out (fun _ => False)) (fun _ _ _ _ e => e)) (fun b o s e => by have := HIN.out b o s e; have := HB2.out.size; omega)).mono ?_
  rintro e w3 ⟨mq, sb, rfl, hq, hrow, hmq, hsb, hne, hb3⟩
  have HB3 : Hid (Below w.heap.size w w3) := below_then HB2.out hb3 HB2.out.size
  have HM3 := Lib.hid (HM.out.below hb3)
  have HR3 := Lib.hid (HR.out.below hb3)
  have HQ := Lib.hid hq
  have HROW := Lib.hid hrow
  have HLT : Hid (p < w2.heap.size ∧ b < w2.heap.size ∧ (∀ g, S g → g < w2.heap.size) ∧ w2.heap.size ≤ mq ∧ w2.heap.size ≤ sb ∧ mq ≠ sb ∧ w2.heap.size ≤ w3.heap.size ∧ mq < w3.heap.size ∧ sb < w3.heap.size) := ⟨blk_lt HM.out.2, HR.out.self.2, fun g hg => HR.out.lt hg, hmq, hsb, hne, hb3.size, blk_lt hq, hrow.lt⟩
  clear hq hrow hmq hsb hne hb3 HM HR
  go_wp2_with fail
  go_ret
  have hs2 := HB2.out.size
  obtain ⟨l1, l2, l3, l4, l5, l6, l7, l8, l9⟩ := HLT.out
  obtain ⟨a1, a2, a3, a4, a5⟩ := HAP.out
  have hal := (Below.refl w3.heap.size w3).alloc (Nat.le_refl _) (Obj.cells #[Value.pointer (some ⟨p, 0, none⟩), .pointer (some ⟨mq, 0, none⟩)] 34)
  refine ⟨w3.heap.size, p, b, mq, sb, S, rfl, ⟨blk_alloc _ _, HM3.out.below hal, HR3.out.below hal, (hal.block _ l8).trans HQ.out, HROW.out.of_block (hal.block _ l9), a1, a2, a3, a4, a5, by omega, by omega, by omega, ⟨by omega, by omega, fun h => by have := l3 _ h; omega⟩, ⟨by omega, by omega, fun h => by have := l3 _ h; omega⟩, ⟨by omega, by omega, fun h => by have := l3 _ h; omega⟩, ⟨by omega, by omega, l6⟩⟩, HB3.out.alloc (by omega) _⟩
end Go.Proofs.YtkogjjeoihnjpaaGreat
end
section
set_option linter.unusedVariables false
set_option linter.unusedSimpArgs false
namespace Go.Proofs.YtkogjjeoihnjpaaGreat
open Go.RowKit
theorem wordN_bytes (v : Nat) : ∀ k, wordN (fun i => v / 2 ^ (8 * i) % 256) k = v % 2 ^ (8 * k)
  | 0 => by simp [wordN, Nat.mod_one]
  | k + 1 => by
    unfold wordN
    rw [wordN_bytes v k, show 8 * (k + 1) = 8 * k + 8 by omega, Nat.pow_add, Nat.mod_mul, show (2 : Nat) ^ 8 = 256 from rfl, Nat.mul_comm (v / 2 ^ (8 * k) % 256)]
theorem wordN_compl (f : Nat → Nat) (h : ∀ i, f i < 256) : ∀ k, wordN f k + wordN (fun i => 255 - f i) k = 2 ^ (8 * k) - 1
  | 0 => by simp [wordN]
  | k + 1 => by
    have ih := wordN_compl f h k
    have hp : 0 < 2 ^ (8 * k) := Nat.pow_pos (by omega)
    have e : 2 ^ (8 * (k + 1)) = 256 * 2 ^ (8 * k) := by rw [show 8 * (k + 1) = 8 * k + 8 by omega, Nat.pow_add]; omega
    unfold wordN
    rw [e]
    have h1 := h k
    have e2 : f k * 2 ^ (8 * k) + (255 - f k) * 2 ^ (8 * k) = 255 * 2 ^ (8 * k) := by rw [← Nat.add_mul]; congr 1; omega
    omega
theorem word_putWord (ct : Nat → Nat) (off k v : Nat) : wordAt (putWord ct off k v) off k = v % 2 ^ (8 * k) := by
  rw [← wordN_bytes]
  exact wordN_congr k fun i hi => by
    unfold putWord
    rw [if_pos ⟨by omega, by omega⟩, Nat.add_sub_cancel_left]
theorem word_putWord_in (ct : Nat → Nat) (off k v d j : Nat) (h : d + j ≤ k) : wordAt (putWord ct off k v) (off + d) j = v / 2 ^ (8 * d) % 2 ^ (8 * j) := by
  rw [← wordN_bytes]
  exact wordN_congr j fun i hi => by
    unfold putWord
    rw [if_pos ⟨by omega, by omega⟩, show off + d + i - off = d + i by omega, Nat.div_div_eq_div_mul, ← Nat.pow_add, Nat.mul_add]
/-- of the eight bytes of v the first k turned -/
def turnedTo (ct : Nat → Nat) (off v k : Nat) : Nat → Nat := fun i => if off ≤ i ∧ i < off + k then 255 - v / 2 ^ (8 * (i - off)) % 256 else putWord ct off 8 v i
theorem turnedTo_0 (ct : Nat → Nat) (off v : Nat) : turnedTo ct off v 0 = putWord ct off 8 v := by
  funext i
  unfold turnedTo
  rw [if_neg (by omega)]
theorem turnedTo_byte (ct : Nat → Nat) (off v k : Nat) (hk : k < 8) : wordAt (turnedTo ct off v k) (off + k) 1 = v / 2 ^ (8 * k) % 256 := by
  show wordN _ 0 + _ * 2 ^ (8 * 0) = _
  unfold turnedTo putWord
  simp only [wordN, Nat.mul_zero, Nat.pow_zero, Nat.mul_one, Nat.zero_add, Nat.add_zero]
  rw [if_neg (by omega), if_pos ⟨by omega, by omega⟩, Nat.add_sub_cancel_left]
theorem turnedTo_step (ct : Nat → Nat) (off v k : Nat) (hk : k < 8) : putWord (turnedTo ct off v k) (off + k) 1 (255 - v / 2 ^ (8 * k) % 256) = turnedTo ct off v (k + 1) := by
  funext i
  unfold putWord turnedTo
  by_cases hi : i = off + k
  · subst hi
    rw [if_pos ⟨by omega, by omega⟩, if_pos ⟨by omega, by omega⟩, Nat.sub_self, Nat.add_sub_cancel_left]
    simp
    omega
  · rw [if_neg (by omega)]
    by_cases h2 : off ≤ i ∧ i < off + k
    · rw [if_pos h2, if_pos ⟨h2.1, by omega⟩]
    · rw [if_neg h2, if_neg (by omega)]
theorem turnedTo_8 (ct : Nat → Nat) (off v : Nat) (hv : v < 2 ^ 64) : wordAt (turnedTo ct off v 8) off 8 = 2 ^ 64 - 1 - v := by
  have h1 := wordN_bytes v 8
  have h2 := wordN_compl (fun i => v / 2 ^ (8 * i) % 256) (fun i => by omega) 8
  have h3 : wordAt (turnedTo ct off v 8) off 8 = wordN (fun i => 255 - v / 2 ^ (8 * i) % 256) 8 := wordN_congr 8 fun i hi => by
    unfold turnedTo
    rw [if_pos ⟨by omega, by omega⟩, Nat.add_sub_cancel_left]
  rw [h3]
  rw [h1, Nat.mod_eq_of_lt (by omega)] at h2
  omega
/-- two halves side by side -/
theorem halves_or (v : Nat) (hv : v < 2 ^ 64) : bits .or .u64 ((v % 2 ^ (8 * 4) : Nat) : Int) (((v / 2 ^ (8 * 4) % 2 ^ (8 * 4)) * 2 ^ 32 : Nat) : Int) = (v : Int) := by
  have h1 : v % 2 ^ (8 * 4) < 2 ^ 32 := Nat.mod_lt _ (by omega)
  have h2 : v / 2 ^ (8 * 4) % 2 ^ (8 * 4) = v / 2 ^ 32 := Nat.mod_eq_of_lt (by omega)
  rw [h2, u64_or_nat _ _ (by omega) (by omega), Nat.or_comm, Nat.mul_comm, ← Nat.two_pow_add_eq_or_of_lt h1]
  congr 1
  omega
theorem xor255 (x : Nat) (h : x < 256) : bits .xor .u64 (x : Int) 255 = ((255 - x : Nat) : Int) := by
  have : ∀ y : Fin 256, bits .xor .u64 (y.val : Int) 255 = ((255 - y.val : Nat) : Int) := by decide +kernel
  exact this ⟨x, h⟩
theorem and255 (x : Nat) (h : x < 2 ^ 64) : bits .and .u64 (x : Int) 255 = ((x % 256 : Nat) : Int) := by
  have := u64_and_nat x 255 (by omega) (by omega)
  rw [show ((255 : Nat) : Int) = 255 from rfl] at this
  rw [this, show (255 : Nat) = 2 ^ 8 - 1 from rfl, Nat.and_two_pow_sub_one_eq_mod]
end Go.Proofs.YtkogjjeoihnjpaaGreat
end
section
set_option linter.unusedVariables false
set_option linter.unusedSimpArgs false
namespace Go.Proofs.YtkogjjeoihnjpaaGreat
open Go.RowKit
set_option maxRecDepth 100000 in
set_option maxHeartbeats 1000000 in
theorem ref_bit (v k : Nat) (hv : v < 2 ^ 64) (hk : (k : Int) ≤ 63) (w : World) : Calls Tryz.prog 240 #[.int .u64 v, .int .i64 k] w fun e w' => e = .returned (.bool (decide (v / 2 ^ k % 2 = 1))) ∧ w = w' := by
  have hw : IntKind.u64.wrap (k : Int) = k := by rw [IntKind.wrap_u64]; omega
  have hb : bits .and .u64 ((v : Int) / 2 ^ k) 1 = ((v / 2 ^ k % 2 : Nat) : Int) := by
    have := u64_and_nat (v / 2 ^ k) 1 (Nat.lt_of_le_of_lt (Nat.div_le_self _ _) hv) (by omega)
    rw [show ((1 : Nat) : Int) = 1 from rfl, Int.natCast_ediv, Int.natCast_pow, show ((2 : Nat) : Int) = 2 from rfl] at this
    rw [this, Nat.and_one_is_mod]
  generalize v / 2 ^ k % 2 = q at *
  clear hv
  go_enter Tryz.func240, Tryz.ntmps240
  go_wp2_with fail
  go_ret
  exact ⟨ret_bool (by rw [Bool.eq_iff_iff]; simp; omega), rfl⟩
set_option maxRecDepth 100000 in
set_option maxHeartbeats 1000000 in
theorem ref_may01 (hi lo : Int) (h0 : 0 ≤ lo) (h1 : lo ≤ hi) (h2 : hi ≤ 63) (w : World) : Calls Tryz.prog 239 #[.int .i64 hi, .int .i64 lo] w fun e w' => e = .returned (.bool true) ∧ w = w' := by
  go_enter Tryz.func239, Tryz.ntmps239
  go_wp2_with fail
  go_ret
  exact ⟨rfl, rfl⟩
/-- the highest j of the bits lo .. lo + d -/
def hiBits (v lo d j : Nat) : Nat := v / 2 ^ (lo + d + 1 - j) % 2 ^ j
theorem hiBits_step (v lo d j : Nat) (h : j ≤ lo + d) : hiBits v lo d (j + 1) = hiBits v lo d j * 2 + v / 2 ^ (lo + d - j) % 2 := by
  unfold hiBits
  have e1 : lo + d + 1 - (j + 1) = lo + d - j := by omega
  have e2 : lo + d + 1 - j = (lo + d - j) + 1 := by omega
  rw [e1, e2, Nat.pow_succ 2 j, Nat.mul_comm (2 ^ j) 2, Nat.mod_mul, Nat.pow_succ 2 (lo + d - j), ← Nat.div_div_eq_div_mul]
  omega
theorem hiBits_lt (v lo d j : Nat) : hiBits v lo d j < 2 ^ j := Nat.mod_lt _ (Nat.pow_pos (by omega))
set_option maxRecDepth 100000 in
set_option maxHeartbeats 2000000 in
theorem ref_field (v lo d : Nat) (hv : v < 2 ^ 64) (hd : (lo : Int) + d ≤ 63) (w : World) :
    Calls Tryz.prog 153 #[.int .u64 v, .int .i64 ((lo : Int) + d), .int .i64 lo] w fun e w' => e = .returned (.int .u64 (v / 2 ^ lo % 2 ^ (d + 1) : Nat)) ∧ w = w' := by
  have HV := Lib.hid hv
  have HS := Lib.hid (hiBits_step v lo d)
  have HLT := Lib.hid (hiBits_lt v lo d)
  have H0 := Lib.hid (show hiBits v lo d 0 = 0 by unfold hiBits; simp [Nat.mod_one])
  have HE := Lib.hid (show hiBits v lo d (d + 1) = v / 2 ^ lo % 2 ^ (d + 1) by unfold hiBits; rw [show lo + d + 1 - (d + 1) = lo by omega])
  clear hv
  generalize hiBits v lo d = F at *
  go_enter Tryz.func153, Tryz.ntmps153
  go_wp2_with fail
  go_loop [7, 8] (fun o i => ∃ j : Nat, (j : Int) ≤ d + 1 ∧ i = .int .i64 ((lo : Int) + d - j) ∧ o = .int .u64 (F j : Nat)) (fun _ i => (intOf i + 1 - lo).toNat)
  case atStart => exact ⟨0, by omega, by simp, by rw [H0.out]; rfl⟩
  case round =>
    obtain ⟨j, hj, rfl, rfl⟩ := hrel
    go_wp2_with fail
    refine (ref_may01 _ _ (by omega) (by omega) (by omega) _).mono ?_
    rintro e w1 ⟨rfl, rfl⟩
    by_cases hlt : (j : Int) ≤ d
    · obtain ⟨t, ht⟩ := Int.eq_ofNat_of_zero_le (show 0 ≤ (lo : Int) + d - j by omega)
      have ht63 : (t : Int) ≤ 63 := by omega
      have hle : (lo : Int) ≤ t := by omega
      have HT := Lib.hid (show t = lo + d - j by omega)
      have HSJ := Lib.hid (HS.out j (by omega))
      rw [← HT.out] at HSJ
      have hF : (F j : Int) < 9223372036854775808 := by
        have h1 := HLT.out j
        have h2 : (2 : Nat) ^ j ≤ 2 ^ 63 := Nat.pow_le_pow_right (by omega) (by omega)
        omega
      rw [ht]
      go_wp2_with fail
      refine (ref_bit v t HV.out ht63 _).mono ?_
      rintro e w1 ⟨rfl, rfl⟩
      by_cases hb : v / 2 ^ t % 2 = 1
      · rw [decide_eq_true hb]
        have HB := Lib.hid hb
        clear hb
        go_wp2_with fail
        exact ⟨⟨j + 1, by omega, congrArg (Value.int .i64) (by omega), by rw [HSJ.out, HB.out]; exact congrArg (Value.int .u64) (by omega)⟩, by simp [intOf]; omega⟩
      · rw [decide_eq_false hb]
        have HB := Lib.hid (show v / 2 ^ t % 2 = 0 by omega)
        clear hb
        go_wp2_with fail
        exact ⟨⟨j + 1, by omega, congrArg (Value.int .i64) (by omega), by rw [HSJ.out, HB.out]; exact congrArg (Value.int .u64) (by omega)⟩, by simp [intOf]; omega⟩
    · obtain rfl : j = d + 1 := by omega
      go_wp2_with fail
      go_ret
      exact ⟨ret_int (by rw [HE.out]), rfl⟩
set_option maxRecDepth 100000 in
set_option maxHeartbeats 2000000 in
theorem ref_bytes (v : Nat) (hv : v < 2 ^ 64) (n : Nat) (hn : (n : Int) ≤ 8) (w : World) :
    Calls Tryz.prog 156 #[.int .u64 v, .int .i64 n] w (OwnSlice w n (numBytes v n)) := by
  have HB0 := Lib.hid (numBytes_snoc v)
  have HL := Lib.hid (show numBytes v 0 = [] from rfl)
  have HV := Lib.hid hv
  clear hv
  go_enter Tryz.func156, Tryz.ntmps156
  go_wp2_with fail
  go_loopw [5, 6] (fun s i wr => ∃ j : Nat, (j : Int) ≤ n ∧ i = .int .i64 j ∧ wr.ownsRow w.heap.size 5 1 s j ((numBytes v j).map (Value.int .u8)) ∧ Below w.heap.size w wr) (fun _ i _ => n - (intOf i).toNat)
  case atStart => exact ⟨0, by omega, rfl, by rw [HL.out]; exact World.ownsRow_nil _ _ _ _, Below.refl _ _⟩
  case round =>
    obtain ⟨j, hj, rfl, hown, hb⟩ := hrel
    have HW := Lib.hid hown
    have HBB := Lib.hid hb
    clear hown hb
    by_cases hlt : (j : Int) < n
    · clear hj
      have hj8 : (j : Int) < 8 := by omega
      obtain ⟨q, hq⟩ : ∃ q, v / 2 ^ (8 * j) % 2 ^ (7 + 1) = q := ⟨_, rfl⟩
      have HF := Lib.hid (fun wq => ref_field v (8 * j) 7 HV.out (by omega) wq)
      have HQ := Lib.hid (show v / 2 ^ (8 * j) % 256 = q from hq)
      rw [hq] at HF
      have hq2 : IntKind.u8.wrap (q : Int) = q := by rw [IntKind.wrap_u8]; have := HQ.out; omega
      have hz : Hid (w.heap.size ≤ (wr.alloc (.cells #[Value.int .u8 (q : Nat)] 5)).heap.size) := by have := HBB.out.size; show _ ≤ _; simp; omega
      have hone : Hid (∀ u ∈ [Value.int .u8 (q : Nat)], u.oneCell' = true) := by intro u hu; simp at hu; subst hu; rfl
      have e8 : ((8 * j : Nat) : Int) = 8 * (j : Int) := by omega
      rw [e8] at HF
      clear hq e8
      go_wp2_with fail
      refine (HF.out _).mono ?_
      rintro e w1 ⟨rfl, rfl⟩
      go_wp2_with (at_builtin; refine wpList_app rfl _ _ 22 rfl w.heap.size 5 (.int .u8 0) 1 Tryz.underlying22 A_info5 rfl _ j _ rfl (HW.out.alloc _) _ _ _ [Value.int .u8 (q : Nat)] rfl (src_one wr _ 5) hone.out (by omega) (by unfold maxLen; omega) hz.out ?_; intro v' w2 hown hg _; have HW2 := Lib.hid hown; have HG := Lib.hid hg; clear hown hg)
      all_goals
        refine ⟨⟨j + 1, by omega, by rw [Int.natCast_succ], ?_, ?_⟩, by simp [intOf]; omega⟩
        · rw [HB0.out, List.map_append, HQ.out]; exact HW2.out
        · exact own_base (HW.out.alloc _) HG.out (HBB.out.alloc HBB.out.size _) hz.out (Nat.le_refl _)
    · obtain rfl : j = n := by omega
      go_wp2_with fail
      go_ret
      exact ⟨_, rfl, HW.out, HBB.out⟩
end Go.Proofs.YtkogjjeoihnjpaaGreat
end
section
set_option linter.unusedVariables false
set_option linter.unusedSimpArgs false
namespace Go.Proofs.YtkogjjeoihnjpaaGreat
open Go.RowKit
theorem wordN_shift (f : Nat → Nat) : ∀ k, wordN f (k + 1) = f 0 + 256 * wordN (fun t => f (t + 1)) k
  | 0 => by simp [wordN]
  | k + 1 => by
    have ih := wordN_shift f k
    have e : 2 ^ (8 * (k + 1)) = 256 * 2 ^ (8 * k) := by rw [show 8 * (k + 1) = 8 * k + 8 by omega, Nat.pow_add]; omega
    show wordN f (k + 1) + f (k + 1) * 2 ^ (8 * (k + 1)) = f 0 + 256 * (wordN (fun t => f (t + 1)) k + f (k + 1) * 2 ^ (8 * k))
    rw [ih, e, Nat.mul_add, Nat.mul_left_comm]
    omega
/-- the number of the bytes from j on -/
def topW (f : Nat → Nat) (m j : Nat) : Nat := wordN (fun t => f (j + t)) (m - j)
theorem topW_step (f : Nat → Nat) (m j : Nat) (h : j < m) : topW f m j = topW f m (j + 1) * 256 + f j := by
  unfold topW
  rw [show m - j = (m - (j + 1)) + 1 by omega, wordN_shift]
  have : (fun t => f (j + (t + 1))) = fun t => f (j + 1 + t) := by funext t; congr 1; omega
  rw [this, Nat.add_zero]
  omega
theorem topW_lt (f : Nat → Nat) (hf : ∀ i, f i < 256) (m j : Nat) : topW f m j < 2 ^ (8 * (m - j)) := wordN_lt (fun t => hf _) _
set_option maxRecDepth 100000 in
set_option maxHeartbeats 2000000 in
theorem ref_word (a : Option Addr) (m c : Nat) (l : List Int) (w : World) (hb : IsB w a m l) (hm : (m : Int) ≤ 8) :
    Calls Tryz.prog 125 #[.slice a m c] w fun e w' => e = .returned (.int .u64 (wordN (fun i => (l.getD i 0).toNat) m : Nat)) ∧ w = w' := by
  have H := Lib.hid hb
  have H255 := Lib.hid (show ∀ i, (l.getD i 0).toNat < 256 ∧ 0 ≤ l.getD i 0 from fun i => by
    by_cases hi : i < l.length
    · have := hb.bd (l.getD i 0) (by simp [List.getD, hi])
      omega
    · simp [List.getD, hi])
  clear hb
  obtain ⟨f, hf⟩ : ∃ f, (fun i => (l.getD i 0).toNat) = f := ⟨_, rfl⟩
  have HF := Lib.hid (show ∀ i, ((f i : Nat) : Int) = l.getD i 0 ∧ f i < 256 from fun i => by rw [← hf]; have := H255.out i; exact ⟨by simp only; omega, this.1⟩)
  rw [hf]
  have HS := Lib.hid (topW_step f m)
  have HLT := Lib.hid (topW_lt f (fun i => (HF.out i).2) m)
  have HM := Lib.hid (show topW f m m = 0 by unfold topW; rw [Nat.sub_self]; rfl)
  have H0 := Lib.hid (show topW f m 0 = wordN f m by unfold topW; simp)
  clear hf
  generalize topW f m = F at *
  generalize hW : wordN f m = W at *
  clear hW
  go_enter Tryz.func125, Tryz.ntmps125
  go_wp2_with fail
  go_loop [3, 4] (fun v i => ∃ j : Nat, (j : Int) ≤ m ∧ i = .int .i64 ((j : Int) - 1) ∧ v = .int .u64 (F j : Nat)) (fun _ i => (intOf i + 1).toNat)
  case atStart => exact ⟨m, by omega, rfl, by rw [HM.out]; rfl⟩
  case round =>
    obtain ⟨j, hj, rfl, rfl⟩ := hrel
    rcases j with _ | j
    · have e0 : ((0 : Nat) : Int) - 1 = -1 := by omega
      rw [e0]
      go_wp2_with fail
      go_ret
      exact ⟨ret_int (by rw [H0.out]), rfl⟩
    · have ej : ((j + 1 : Nat) : Int) - 1 = j := by omega
      rw [ej]
      have hj2 : (j : Int) < m := by omega
      have hj8 : (j : Int) < 8 := by omega
      obtain ⟨b, o, rfl, hc⟩ : ∃ b o, a = some ⟨b, o, none⟩ ∧ w.cell? ⟨b, o + j, none⟩ = some (.int .u8 (f j : Nat)) := by
        rcases H.out.cell with ⟨_, h0⟩ | ⟨b, o, rfl, h⟩
        · omega
        · exact ⟨b, o, rfl, (h j (by omega)).trans (by rw [(HF.out j).1])⟩
      have hlt := HLT.out (j + 1)
      have hp : (2 : Nat) ^ (8 * (m - (j + 1))) ≤ 2 ^ 56 := Nat.pow_le_pow_right (by omega) (by omega)
      have hF : (F (j + 1) : Int) < 72057594037927936 := by omega
      have h255 : (f j : Int) < 256 := by have := (HF.out j).2; omega
      have hw1 : IntKind.u64.wrap (f j : Int) = f j := by rw [IntKind.wrap_u64]; omega
      have HSJ := Lib.hid (HS.out j (by omega))
      clear hlt hp hj
      go_wp2_with fail
      exact ⟨⟨j, by omega, rfl, by rw [HSJ.out]; exact congrArg (Value.int .u64) (by omega)⟩, by simp [intOf]; try omega⟩
end Go.Proofs.YtkogjjeoihnjpaaGreat
end
section
set_option linter.unusedVariables false
set_option linter.unusedSimpArgs false
namespace Go.Proofs.YtkogjjeoihnjpaaGreat
open Go.RowKit Sx
set_option maxRecDepth 100000
/-- block p is a machine of the document's, its bytes in block sb -/
def RefAt (w : World) (p sb n : Nat) (hs : List Value) : Prop := hs.length = 66 ∧ w.heap[p]? = some (.cells (Value.int .i64 n :: .slice (some ⟨sb, 0, none⟩) (n * 4096) (n * 4096) :: hs).toArray 62 (0, 0))
/-- block sb holds those bytes -/
def RefMem (w : World) (sb n : Nat) (ct : Nat → Nat) : Prop := w.rowIs sb 5 (n * 4096) (fun i => .int .u8 (ct i : Nat)) ∧ (∀ i, ct i < 256) ∧ 4 ≤ n ∧ n ≤ 256
theorem RefAt.pages {w : World} {p sb n : Nat} {hs : List Value} (h : RefAt w p sb n hs) : w.cell? ⟨p, 0, none⟩ = some (.int .i64 n) := by rw [blk_cell h.2 0]; rfl
theorem RefAt.bytes {w : World} {p sb n : Nat} {hs : List Value} (h : RefAt w p sb n hs) : w.cell? ⟨p, 1, none⟩ = some (.slice (some ⟨sb, 0, none⟩) (n * 4096) (n * 4096)) := by rw [blk_cell h.2 1]; rfl
theorem RefAt.below {w w' : World} {p sb n : Nat} {hs : List Value} (h : RefAt w p sb n hs) (hb : Below w.heap.size w w') : RefAt w' p sb n hs := ⟨h.1, by rw [hb.block p (blk_lt h.2)]; exact h.2⟩
theorem RefMem.below {w w' : World} {sb n : Nat} {ct : Nat → Nat} (h : RefMem w sb n ct) (hb : Below w.heap.size w w') : RefMem w' sb n ct := by
  obtain ⟨⟨cur, h1, h2, h3⟩, h4⟩ := h
  exact ⟨⟨cur, (hb.block sb (blk_lt h1)).trans h1, h2, h3⟩, h4⟩
/-- some of the bytes -/
def ctL (ct : Nat → Nat) (off k : Nat) : List Int := (List.range k).map fun i => ((ct (off + i) : Nat) : Int)
theorem RefMem.isB {w : World} {sb n : Nat} {ct : Nat → Nat} (h : RefMem w sb n ct) (off k : Nat) (hk : off + k ≤ n * 4096) : IsB w (some ⟨sb, off, none⟩) k (ctL ct off k) := by
  obtain ⟨⟨cur, h1, h2, h3⟩, h4, _⟩ := h
  refine ⟨by simp [ctL], fun x hx => ?_, .inr ⟨sb, off, rfl, fun i hi => ?_⟩⟩
  · simp only [ctL, List.mem_map, List.mem_range] at hx
    obtain ⟨i, hi, rfl⟩ := hx
    have := h4 (off + i)
    omega
  · rw [blk_cell h1 (off + i), h3 (off + i) (by omega)]
    simp [ctL, List.getD, hi]
set_option maxHeartbeats 1000000 in
theorem ref24_bytes_ram {w : World} {p sb n : Nat} {hs : List Value} {ct : Nat → Nat} (hm : RefAt w p sb n hs) (h : RefMem w sb n ct) (x : Int) (x0 : 0 ≤ x) (x1 : x < 18446744073709551616) (k off : Nat) (hk1 : 1 ≤ k) (hk : (k : Int) ≤ 8) (hr : (pmaFind n x).1 ≠ 1) (ho : x - 2147483648 = off) (hoff : (off : Int) + k ≤ (n : Int) * 4096) :
    Calls Tryz.prog 53 #[.pointer (some ⟨p, 0, none⟩), .int .u64 x, .int .i64 k] w (Gives (.int .u64 (wordAt ct off k : Nat)) w) := by
  have HR := Lib.hid (ref_region n h.2.2.1 h.2.2.2 x x0 x1)
  have hne : ((pmaFind n x).1 == 1) = false := by simpa using hr
  have H := Lib.hid h
  have HM := Lib.hid hm
  have H256 := Lib.hid (And.intro h.2.2.1 h.2.2.2)
  have HW := Lib.hid (show wordN (fun i => ((ctL ct off k).getD i 0).toNat) k = wordAt ct off k from wordN_congr k fun i hi => by simp [ctL, List.getD, hi])
  have c0 := hm.pages
  have ex : IntKind.u64.wrap (x - 2147483648) = off := by rw [ho, IntKind.wrap_u64]; omega
  have ei : IntKind.i64.wrap (off : Int) = off := by have := h.2.2.2; rw [IntKind.wrap_i64]; omega
  have es : wrap64 ((off : Int) + k) = (off : Int) + k := by have := h.2.2.2; unfold wrap64; omega
  have o1 : (off : Int) ≤ (off : Int) + k := by omega
  have o0 : (0 : Int) ≤ (off : Int) + k := by omega
  have HO := Lib.hid hoff
  have hno : ¬ n * 4096 = off := by omega
  clear hr x0 x1 h hm ho
  generalize (pmaFind n x).1 = K at *
  generalize wordAt ct off k = V at *
  go_enter Tryz.func53, Tryz.ntmps53
  go_wp2_with fail
  refine (HR.out _).mono ?_
  rintro e w1 ⟨rfl, hb⟩
  have HB := Lib.hid hb
  have c1 := (HM.out.below hb).bytes
  have HH := Lib.hid (H.out.below hb)
  clear hb
  go_wp2_with fail
  refine (ref_word _ k _ (ctL ct off k) _ (HH.out.isB off k (by have := HO.out; omega)) hk).mono ?_
  rintro e w2 ⟨rfl, rfl⟩
  rw [HW.out]
  go_wp2_with fail
  go_ret
  exact ⟨rfl, HB.out⟩
set_option maxHeartbeats 1000000 in
theorem ref24_bytes_rom {w : World} {p sb n : Nat} {hs : List Value} {ct : Nat → Nat} (hm : RefAt w p sb n hs) (h : RefMem w sb n ct) (x : Int) (x0 : 0 ≤ x) (x1 : x < 18446744073709551616) (k off : Nat) (hk : (k : Int) ≤ 8) (hr : (pmaFind n x).1 = 1) (ho : x - 4096 = off) (hoff : (off : Int) + k ≤ 4096) :
    Calls Tryz.prog 53 #[.pointer (some ⟨p, 0, none⟩), .int .u64 x, .int .i64 k] w (Gives (.int .u64 (wordN (fun i => (romAt (off + i)).toNat) k : Nat)) w) := by
  have HR := Lib.hid (ref_region n h.2.2.1 h.2.2.2 x x0 x1)
  have HA := Lib.hid (fun wq => ref_read off k (by omega) wq)
  have c0 := hm.pages
  have ex : IntKind.u64.wrap (x - 4096) = off := by rw [ho, IntKind.wrap_u64]; omega
  have HW := Lib.hid (show wordN (fun i => ((romL off k).getD i 0).toNat) k = wordN (fun i => (romAt (off + i)).toNat) k from wordN_congr k fun i hi => by rw [romL_get _ _ _ hi])
  rw [hr] at HR
  clear hr x0 x1 h hm ho hoff
  generalize wordN (fun i => (romAt (off + i)).toNat) k = V at *
  go_enter Tryz.func53, Tryz.ntmps53
  go_wp2_with fail
  refine (HR.out _).mono ?_
  rintro e w1 ⟨rfl, hb⟩
  have HB := Lib.hid hb
  clear hb
  go_wp2_with fail
  refine (HA.out _).mono ?_
  rintro e w2 ⟨a, c, rfl, hib, hb2⟩
  have HB2 : Hid (Below w.heap.size w w2) := below_then HB.out hb2 HB.out.size
  have HIB := Lib.hid hib
  clear hb2 hib
  go_wp2_with fail
  refine (ref_word a k c _ _ HIB.out hk).mono ?_
  rintro e w3 ⟨rfl, rfl⟩
  rw [HW.out]
  go_wp2_with fail
  go_ret
  exact ⟨rfl, HB2.out⟩
theorem mayErr_in {n : Nat} {x : Int} {k : Nat} (h0 : 0 ≤ x) (h : mayErr n x k = 0) : (k = 1 ∨ k = 2 ∨ k = 4 ∨ k = 8) ∧ x % (k : Int) = 0 ∧ (pmaFind n x).1 = 5 ∧ 2147483648 ≤ x ∧ x - 2147483648 + k ≤ (n : Int) * 4096 := by
  obtain ⟨h1, h2, h3⟩ := mayErr_0 h
  have h4 := isRam_find n x
  unfold ramAll at h3
  simp only [Bool.or_eq_true, decide_eq_true_eq, Bool.and_eq_true] at h3
  rcases h3 with h3 | ⟨h3, h5⟩
  · omega
  rw [h3] at h4
  simp only [isRam, decide_eq_true_eq] at h3 h4
  exact ⟨by omega, h2, h4, h3.1, h5⟩
/-- where a word of 8 bytes is: a multiple of 8 in memory -/
theorem mayErr_8 {n : Nat} {x : Int} (h5 : (pmaFind n x).1 = 5) (h8 : x % 8 = 0) : mayErr n x 8 = 0 := by
  have h4 := isRam_find n x
  rw [h5] at h4
  have h6 : isRam n x = true := by rw [← h4]; rfl
  have h7 := h6
  simp only [isRam, decide_eq_true_eq] at h7
  unfold mayErr
  rw [if_pos (by omega), if_pos h8, if_pos]
  unfold ramAll
  simp only [h6, Bool.true_and, Bool.or_eq_true, decide_eq_true_eq]
  omega
/-- what is loaded, where something is -/
theorem ref24_bytes {w : World} {p sb n : Nat} {hs : List Value} {ct : Nat → Nat} (hm : RefAt w p sb n hs) (h : RefMem w sb n ct) (x : Int) (x0 : 0 ≤ x) (x1 : x < 18446744073709551616) (k : Nat) (hk : k ≤ 8)
    (hin : ((pmaFind n x).1 = 1 ∧ x - 4096 + k ≤ 4096) ∨ mayErr n x k = 0) :
    Calls Tryz.prog 53 #[.pointer (some ⟨p, 0, none⟩), .int .u64 x, .int .i64 k] w (Gives (.int .u64 (loadN n ct x k : Nat)) w) := by
  rcases hin with ⟨h1, h2⟩ | h1
  · obtain ⟨r1, r2, r3⟩ := pmaFind_rom h1
    obtain ⟨off, ho⟩ : ∃ off : Nat, x - 4096 = off := ⟨(x - 4096).toNat, by omega⟩
    have hv : loadN n ct x k = wordN (fun i => (romAt (off + i)).toNat) k := by
      unfold loadN
      rw [if_pos h1, r3, ho, Int.toNat_natCast, if_pos (by omega)]
    rw [hv]
    exact ref24_bytes_rom hm h x x0 x1 k off (by omega) h1 ho (by omega)
  · obtain ⟨m1, m2, m3, m4, m5⟩ := mayErr_in x0 h1
    obtain ⟨off, ho⟩ : ∃ off : Nat, x - 2147483648 = off := ⟨(x - 2147483648).toNat, by omega⟩
    have hv : loadN n ct x k = wordAt ct off k := by
      unfold loadN
      rw [if_neg (by rw [m3]; decide), if_pos h1, ho, Int.toNat_natCast]
    rw [hv]
    exact ref24_bytes_ram hm h x x0 x1 k off (by omega) (by omega) (by rw [m3]; decide) ho (by omega)
/-- an entry -/
def EntryIs (n : Nat) (ct : Nat → Nat) (x : Int) : Value := if mayErr n x 8 = 0 then .tuple #[.int .u64 (wordAt ct (x - 2147483648).toNat 8 : Nat), .bool true] else .tuple #[.int .u64 0, .bool false]
set_option maxHeartbeats 1000000 in
theorem ref24_entry {w : World} {p sb n : Nat} {hs : List Value} {ct : Nat → Nat} (hm : RefAt w p sb n hs) (h : RefMem w sb n ct) (x : Int) (x0 : 0 ≤ x) (x1 : x < 18446744073709551616) :
    Calls Tryz.prog 115 #[.pointer (some ⟨p, 0, none⟩), .int .u64 x] w (Gives (EntryIs n ct x) w) := by
  have HR := Lib.hid (ref_region n h.2.2.1 h.2.2.2 x x0 x1)
  have c0 := hm.pages
  have HM := Lib.hid hm
  have et : x.tmod 8 = x % 8 := Int.tmod_eq_emod_of_nonneg x0
  by_cases h5 : (pmaFind n x).1 = 5
  · by_cases h8 : x % 8 = 0
    · have h9 := mayErr_8 h5 h8
      have HL := Lib.hid (fun wq (hq : Below w.heap.size w wq) => ref24_bytes (hm.below hq) (h.below hq) x x0 x1 8 (by omega) (.inr h9))
      have hv : loadN n ct x 8 = wordAt ct (x - 2147483648).toNat 8 := by unfold loadN; rw [if_neg (by rw [h5]; decide)]; rw [if_pos (by exact h9)]
      have he : EntryIs n ct x = .tuple #[.int .u64 (wordAt ct (x - 2147483648).toNat 8 : Nat), .bool true] := if_pos h9
      rw [he]
      rw [hv] at HL
      rw [h5] at HR
      have e8 : x.tmod 8 = 0 := by rw [et, h8]
      clear h9 h5 h8 hv he x0 x1 h hm et
      generalize wordAt ct (x - 2147483648).toNat 8 = V at *
      go_enter Tryz.func115, Tryz.ntmps115
      go_wp2_with fail
      refine (HR.out _).mono ?_
      rintro e w1 ⟨rfl, hb⟩
      have HB := Lib.hid hb
      clear hb
      go_wp2_with fail
      refine (HL.out _ HB.out).mono ?_
      rintro e w2 ⟨rfl, hb2⟩
      have HB2 : Hid (Below w.heap.size w w2) := below_then HB.out hb2 HB.out.size
      clear hb2
      go_wp2_with fail
      go_ret2
      exact ⟨rfl, HB2.out⟩
    · have he : EntryIs n ct x = .tuple #[.int .u64 0, .bool false] := if_neg fun h9 => h8 (by have := (mayErr_0 h9).2.1; simpa using this)
      rw [he]
      rw [h5] at HR
      have e8 : (x.tmod 8 == 0) = false := by rw [et]; simpa using h8
      clear h5 h8 he x0 x1 h hm et
      go_enter Tryz.func115, Tryz.ntmps115
      go_wp2_with fail
      refine (HR.out _).mono ?_
      rintro e w1 ⟨rfl, hb⟩
      have HB := Lib.hid hb
      clear hb
      go_wp2_with fail
      go_ret2
      exact ⟨rfl, HB.out⟩
  · have he : EntryIs n ct x = .tuple #[.int .u64 0, .bool false] := if_neg fun h9 => h5 (mayErr_in (k := 8) x0 h9).2.2.1
    rw [he]
    have hne : ((pmaFind n x).1 == 5) = false := by simpa using h5
    clear h5 he x0 x1 h hm et
    generalize (pmaFind n x).1 = K at *
    go_enter Tryz.func115, Tryz.ntmps115
    go_wp2_with fail
    refine (HR.out _).mono ?_
    rintro e w1 ⟨rfl, hb⟩
    have HB := Lib.hid hb
    clear hb
    go_wp2_with fail
    go_ret2
    exact ⟨rfl, HB.out⟩
end Go.Proofs.YtkogjjeoihnjpaaGreat
end
section
set_option linter.unusedVariables false
set_option linter.unusedSimpArgs false
namespace Go.Proofs.YtkogjjeoihnjpaaGreat
open Go.RowKit Sx
set_option maxRecDepth 100000
/-- a word is stored: block sb alone turns -/
def StoreIs (w : World) (sb n : Nat) (ct : Nat → Nat) (off k v : Nat) (e : Ending) (w' : World) : Prop := e = .returned (.tuple #[]) ∧ RefMem w' sb n (putWord ct off k v) ∧ Turned (· = sb) w w'
theorem ref24_copy {w : World} {sb n : Nat} {ct : Nat → Nat} (h : RefMem w sb n ct) {B off k v : Nat} {vv : Value} (ho : w.ownsRow B 5 1 vv k ((numBytes v k).map (Value.int .u8))) (hk1 : 1 ≤ k) (hoff : off + k ≤ n * 4096) :
    ∃ w', (Builtin.copy_ #[22, 22] 3 #[.slice (some ⟨sb, off, none⟩) (n * 4096 - off) (n * 4096 - off), vv]).run Tryz.prog w = .ok (goInt k) w' ∧ RefMem w' sb n (putWord ct off k v) ∧ Turned (· = sb) w w' := by
  obtain ⟨a, c, rfl, hb⟩ := bytes_own ho (numBytes_bd v k)
  obtain ⟨⟨cur, c1, c2, c3⟩, h4, h5⟩ := h
  rcases hb.cell with ⟨_, h0⟩ | ⟨g, o, rfl, hc⟩
  · omega
  have hl : ((numBytes v k).map (Value.int .u8)).length = k := by simp [numBytes_len]
  have hrun := run_copy_row (P := Tryz.prog) w 22 22 3 5 sb off (n * 4096 - off) (n * 4096 - off) ⟨g, o, none⟩ k c cur 5 ((numBytes v k).map (Value.int .u8)) Tryz.underlying22 (by kernel_rfl) c1
    (by rw [hl]; show k = min k _; omega) (fun j u hu => by
      have hj : j < k := by have := (List.getElem?_eq_some_iff.1 hu).1; omega
      rw [addr_add, hc j hj]
      rw [List.getElem?_map] at hu
      rw [← hu, List.getD]
      have hj2 : j < (numBytes v k).length := by rw [numBytes_len]; exact hj
      simp [hj2]) (by rw [hl, c2]; omega) (fun u hu => by
      simp only [List.mem_map] at hu
      obtain ⟨x, _, rfl⟩ := hu
      rfl)
  rw [hl] at hrun
  refine ⟨_, hrun, ⟨⟨_, setRow_heap w sb _ _ 5 _ c1, ?_, fun i hi => ?_⟩, fun i => ?_, h5⟩, rfl, rfl, rfl, by simp [World.setRow], fun q hq hn => setRow_other w sb q _ hn⟩
  · simp [numBytes_len, c2]; omega
  · have hi2 : i < cur.size := by omega
    simp only [List.getElem?_toArray, putWord]
    have hlt : (cur.toList.take off).length = off := by simp; omega
    by_cases h1 : i < off
    · rw [List.append_assoc, List.getElem?_append_left (by omega), if_neg (by omega), List.getElem?_take_of_lt h1, Array.getElem?_toList]
      exact c3 i hi
    · rw [List.append_assoc, List.getElem?_append_right (by omega), hlt]
      by_cases h2 : i < off + k
      · rw [List.getElem?_append_left (by rw [hl]; omega), if_pos ⟨by omega, h2⟩, List.getElem?_map]
        have hj2 : i - off < (numBytes v k).length := by rw [numBytes_len]; omega
        have := numBytes_getD v k (i - off) (by omega)
        rw [List.getD, List.getElem?_eq_getElem hj2] at this
        rw [List.getElem?_eq_getElem hj2]
        simp only [Option.getD_some] at this
        simp [this]
      · rw [List.getElem?_append_right (by rw [hl]; omega), if_neg (by omega), hl, List.getElem?_drop, Array.getElem?_toList, show off + k + (i - off - k) = i by omega]
        exact c3 i hi
  · unfold putWord
    split
    · exact Nat.mod_lt _ (by omega)
    · exact h4 i
theorem RefAt.turned {w w' : World} {p sb n : Nat} {hs : List Value} (h : RefAt w p sb n hs) (ht : Turned (· = sb) w w') (hp : p ≠ sb) : RefAt w' p sb n hs := ⟨h.1, (ht.block p (blk_lt h.2) hp).trans h.2⟩
set_option maxHeartbeats 2000000 in
theorem ref24_store {w : World} {p sb n : Nat} {hs : List Value} {ct : Nat → Nat} (hm : RefAt w p sb n hs) (h : RefMem w sb n ct) (x : Int) (x0 : 0 ≤ x) (x1 : x < 18446744073709551616) (k off v : Nat) (hv : v < 2 ^ 64) (hk1 : 1 ≤ k) (hk : (k : Int) ≤ 8) (hp : p ≠ sb) (ho : x - 2147483648 = off) (hoff : (off : Int) + k ≤ (n : Int) * 4096) :
    Calls Tryz.prog 73 #[.pointer (some ⟨p, 0, none⟩), .int .u64 x, .int .i64 k, .int .u64 v] w (StoreIs w sb n ct off k v) := by
  have HBY := Lib.hid (fun wq => ref_bytes v hv k hk wq)
  have H := Lib.hid h
  have HM := Lib.hid hm
  have ex : IntKind.u64.wrap (x - 2147483648) = off := by rw [ho, IntKind.wrap_u64]; omega
  have ei : IntKind.i64.wrap (off : Int) = off := by have := h.2.2.2; rw [IntKind.wrap_i64]; omega
  have HO2 : Hid (off + k ≤ n * 4096) := by show _ ≤ _; omega
  have hno : ¬ n * 4096 = off := by omega
  have hle : (off : Int) ≤ (n : Int) * 4096 := by omega
  clear x0 x1 h hm ho hv hoff
  go_enter Tryz.func73, Tryz.ntmps73
  refine wp_region_held_drew (S := fun wq => RefAt wq p sb n hs) (by kernel_rfl) HM.out (fun hH => ?_)
  refine wpAnyH_take (i := 0) (oi := ⟨some 8, _, _, _, _, _⟩) (v := ?_) rfl (by kernel_rfl) (by kernel_rfl) (by kernel_rfl) (fun _ _ _ h => h) (Or.inl ⟨by kernel_rfl, ?_⟩) hH ?_
  rotate_left 1
  · intro wq hq; have hq1 := hq.bytes; first | (go_simp; done) | (go_simp; with_reducible rfl)
  simp only [Act.put, List.setIfInBounds_toArray, List.set_cons_zero, List.set_cons_succ]
  refine wpAnyH_take (i := 1) (oi := ⟨some 9, _, _, _, _, _⟩) (v := ?_) rfl (by kernel_rfl) (by kernel_rfl) (by kernel_rfl) (fun _ _ _ h => h) (Or.inl ⟨by kernel_rfl, ?_⟩) hH ?_
  rotate_left 1
  · intro wq hq; have hq1 := hq.bytes; first | (go_simp; done) | (go_simp; with_reducible rfl)
  simp only [Act.put, List.setIfInBounds_toArray, List.set_cons_zero, List.set_cons_succ]
  refine wpAnyH_take (i := 2) (oi := ⟨some 10, _, _, _, _, _⟩) (v := ?_) rfl (by kernel_rfl) (by kernel_rfl) (by kernel_rfl) (fun _ _ _ h => h) (Or.inl ⟨by kernel_rfl, ?_⟩) hH ?_
  rotate_left 1
  · intro wq hq; have hq1 := hq.bytes; first | (go_simp; done) | (go_simp; with_reducible rfl)
  simp only [Act.put, List.setIfInBounds_toArray, List.set_cons_zero, List.set_cons_succ]
  refine wpAnyH_take (i := 3) (oi := ⟨some 11, _, _, _, _, _⟩) (v := ?_) rfl (by kernel_rfl) (by kernel_rfl) (by kernel_rfl) (fun _ _ _ h => h) (Or.inl ⟨by kernel_rfl, ?_⟩) hH ?_
  rotate_left 1
  · intro wq hq; have hq1 := hq.bytes; first | (go_simp; done) | (go_simp; with_reducible rfl)
  simp only [Act.put, List.setIfInBounds_toArray, List.set_cons_zero, List.set_cons_succ]
  refine wpAnyH_take (i := 4) (oi := ⟨some 12, _, _, _, _, _⟩) (v := ?_) rfl (by kernel_rfl) (by kernel_rfl) (by kernel_rfl) (fun _ _ _ h => h) (Or.inl ⟨by kernel_rfl, ?_⟩) hH ?_
  rotate_left 1
  · intro wq hq; have hq1 := hq.bytes; first | (go_simp; done) | (go_simp; with_reducible rfl)
  simp only [Act.put, List.setIfInBounds_toArray, List.set_cons_zero, List.set_cons_succ]
  refine wpAnyH_take (i := 5) (oi := ⟨some 13, _, _, _, _, _⟩) (v := ?_) rfl (by kernel_rfl) (by kernel_rfl) (by kernel_rfl) (fun _ _ _ h => h) (Or.inl ⟨by kernel_rfl, ?_⟩) hH ?_
  rotate_left 1
  · intro wq hq; have hq1 := hq.bytes; first | (go_simp; done) | (go_simp; with_reducible rfl)
  simp only [Act.put, List.setIfInBounds_toArray, List.set_cons_zero, List.set_cons_succ]
  refine wpAnyH_take (i := 6) (oi := ⟨some 14, _, _, _, _, _⟩) (v := ?_) rfl (by kernel_rfl) (by kernel_rfl) (by kernel_rfl) (fun _ _ _ h => h) (Or.inl ⟨by kernel_rfl, ?_⟩) hH ?_
  rotate_left 1
  · intro wq hq; have hq1 := hq.bytes; first | (go_simp; done) | (go_simp; with_reducible rfl)
  simp only [Act.put, List.setIfInBounds_toArray, List.set_cons_zero, List.set_cons_succ]
  refine wpAnyH_take (i := 7) (oi := ⟨some 15, _, _, _, _, _⟩) (v := ?_) rfl (by kernel_rfl) (by kernel_rfl) (by kernel_rfl) (fun _ _ _ h => h) (Or.inl ⟨by kernel_rfl, ?_⟩) hH ?_
  rotate_left 1
  · intro wq hq; have hq1 := hq.bytes; first | (go_simp; done) | (go_simp; with_reducible rfl)
  simp only [Act.put, List.setIfInBounds_toArray, List.set_cons_zero, List.set_cons_succ]
  refine wpAnyH_take (i := 8) (oi := ⟨some 16, _, _, _, _, _⟩) (v := ?_) rfl (by kernel_rfl) (by kernel_rfl) (by kernel_rfl) (fun _ _ _ h => h) (Or.inl ⟨by kernel_rfl, ?_⟩) hH ?_
  rotate_left 1
  · intro wq hq; have hq1 := hq.bytes; first | (go_simp; done) | (go_simp; with_reducible rfl)
  simp only [Act.put, List.setIfInBounds_toArray, List.set_cons_zero, List.set_cons_succ]
  refine wpAnyH_take (i := 9) (oi := ⟨some 17, _, _, _, _, _⟩) (v := ?_) rfl (by kernel_rfl) (by kernel_rfl) (by kernel_rfl) (fun _ _ _ h => h) (Or.inl ⟨by kernel_rfl, ?_⟩) hH ?_
  rotate_left 1
  · intro wq hq; have hq1 := hq.bytes; first | (go_simp; done) | (go_simp; with_reducible rfl)
  simp only [Act.put, List.setIfInBounds_toArray, List.set_cons_zero, List.set_cons_succ]
  refine wpAnyH_ready (rs := [10]) (by kernel_rfl) (by simp) (AllReadyH.cons (o := ⟨some 18, _, _, _, _, _⟩) rfl (fun K hK => ?_) AllReadyH.nil)
  go_simp
  refine (HBY.out _).mono ?_
  rintro e w2 ⟨vv, rfl, hown, hb2⟩
  have HB2 : Hid (Below w.heap.size w w2) := below_then (Below.refl _ _).drew hb2 (Nat.le_refl _)
  have HOWN := Lib.hid hown
  clear hb2 hown
  go_wp2_with fail
  refine hK.out _ _ (HM.out.below HB2.out) (fun hH => ?_)
  clear hK K
  try simp only [Act.put, List.setIfInBounds_toArray, List.set_cons_zero, List.set_cons_succ]
  refine wpAnyH_ready (rs := [11]) (by kernel_rfl) (by simp) (AllReadyH.cons (o := ⟨some 19, _, _, _, _, _⟩) rfl (fun K hK => ?_) AllReadyH.nil)
  go_simp
  obtain ⟨w3, e3, r3, t3⟩ := ref24_copy (H.out.below HB2.out) HOWN.out hk1 HO2.out
  rw [e3]
  simp only [Result.andThen, Oper.upon_value]
  have HR3 := Lib.hid r3
  have HT3 := Lib.hid t3
  clear e3 r3 t3
  refine hK.out _ _ (hH.turned HT3.out hp) (fun hH => ?_)
  clear hK K
  try simp only [Act.put, List.setIfInBounds_toArray, List.set_cons_zero, List.set_cons_succ]
  refine wpAnyH_done (by kernel_rfl) ?_ _
  clear hH
  go_wp2_with fail
  go_end0
  refine ⟨rfl, HR3.out, HT3.out.os.trans HB2.out.os, HT3.out.tape.trans HB2.out.tape, HT3.out.output.trans HB2.out.output, Nat.le_trans HB2.out.size HT3.out.size, fun q hq hn => ?_⟩
  have := HB2.out.size
  exact (HT3.out.block q (by omega) hn).trans (HB2.out.block q hq)
end Go.Proofs.YtkogjjeoihnjpaaGreat
end
