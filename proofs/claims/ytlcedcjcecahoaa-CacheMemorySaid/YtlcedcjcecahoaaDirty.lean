/- Dirty: the dirty lines, collected and sorted by their addresses. No condition. -/
import Derived.Test.YtlcedcjcecahoaaSort
set_option linter.unusedVariables false
set_option linter.unusedSimpArgs false
namespace Go.Proofs.Ytlcedcjcecahoaa
open Go.RowKit Go.Shelf
set_option maxRecDepth 100000
def bsliceL (y : Value) : Sem Value := Instr.buildSlice 63 1 #[(0, y)]
theorem bs_line (y : Value) : Instr.buildSlice 63 1 #[(0, y)] = bsliceL y := rfl
theorem rs_bline (x : CLine) (w : World) : (bsliceL (.agg (lineArr x))).run Try.prog w = .ok (.slice (some ⟨w.heap.size, 0, none⟩) 1 1) (w.alloc (.cells (lineArr x) 76)) := by kernel_rfl
attribute [local go_sem] Oper.semAt_some
attribute [local go_sem ↓] ld_line st_line sl_64
attribute [local go_sem] rl_line rs_line set_new there_new lineAt_new zc_line run_slice64_all
theorem wpListIn_bline {F : Fence} {n : Nat} {ops : Array Oper} {rest : List Oper} {o : Oper} {a : Act} {w : World} {Q : Exit → Act → World → Prop} (hg : o.guard = none) (z : Operand) (ho : o.op = .buildSlice 63 1 #[(0, z)]) (x : CLine) (hx : a.eval z = .agg (lineArr x))
    (h : wpListIn F n Try.prog ops Q rest (a.put o.dst (.slice (some ⟨w.heap.size, 0, none⟩) 1 1)) (w.alloc (.cells (lineArr x) 76))) : wpListIn F n Try.prog ops Q (o :: rest) a w := by
  refine wpListIn_plain hg fun K hK => ?_
  unfold Oper.wpIn
  refine ⟨by simp [Oper.about, ho], ?_⟩
  rw [Oper.semAt_plain F _ _ (by rw [ho]; intro c hc'; cases hc')]
  unfold execOp
  simp only [ho]
  have e := rs_bline x w
  unfold bsliceL at e
  have e2 : (Instr.buildSlice 63 1 (#[(0, z)].map fun (i, x) => (i, a.eval x))) = Instr.buildSlice 63 1 #[(0, .agg (lineArr x))] := by
    simp only [List.map_toArray, List.map_cons, List.map_nil, hx]
  rw [e2]
  simp only [Sem.run_bind, e, Result.andThen]
  exact hK _ _ h
/-- the dirty ones -/
def dl (l : List CLine) : List CLine := l.filter (·.d)
theorem dl_hit (pre : List CLine) {x : CLine} (h : x.d = true) : dl (pre ++ [x]) = dl pre ++ [x] := by simp [dl, h]
theorem dl_miss (pre : List CLine) {x : CLine} (h : x.d = false) : dl (pre ++ [x]) = dl pre := by simp [dl, h]
theorem dl_len (l : List CLine) : (dl l).length ≤ l.length := List.length_filter_le _ _
/-- cell q holds the slice of these lines -/
def DirtyIs (w : World) (n0 q : Nat) (d : List CLine) : Prop := n0 ≤ q ∧ ∃ v, w.cell? ⟨q, 0, none⟩ = some v ∧ ((v = .slice none 0 0 ∧ d = []) ∨ ∃ rb cap, n0 ≤ rb ∧ rb < w.heap.size ∧ v = .slice (some ⟨rb, 0, none⟩) d.length cap ∧ LinesAt w rb d)
def DirtyEnd (w : World) (X : List CLine) (e : Ending) (W' : World) : Prop := (∃ q d, e = .returned (.func (.func 38) #[] #[.pointer (some ⟨q, 0, none⟩)]) ∧ DirtyIs W' w.heap.size q d ∧ d.Perm X ∧ Asc d) ∧ Below w.heap.size w W'
theorem flat_get : ∀ (d : List CLine) (j i : Nat), j < d.length → i < 67 → (d.flatMap lineVals)[j * 67 + i]? = some (lineCell (d.getD j .zero) i)
  | [], j, i, hj, _ => by simp at hj
  | x :: d, 0, i, _, hi => by
    rw [List.flatMap_cons, List.getElem?_append_left (by rw [lineVals_len]; omega)]
    simp [lineVals, hi]
  | x :: d, j + 1, i, hj, hi => by
    rw [List.flatMap_cons, List.getElem?_append_right (by rw [lineVals_len]; omega), lineVals_len, show (j + 1) * 67 + i - 67 = j * 67 + i by omega, flat_get d j i (by simpa using hj) hi]
    rfl
theorem lines_of_row {w : World} {n0 : Nat} {v : Value} {d : List CLine} (h : w.ownsRow n0 76 67 v d.length (d.flatMap lineVals)) : (v = .slice none 0 0 ∧ d = []) ∨ ∃ rb cap, n0 ≤ rb ∧ rb < w.heap.size ∧ v = .slice (some ⟨rb, 0, none⟩) d.length cap ∧ LinesAt w rb d := by
  obtain ⟨_, ⟨h1, h2⟩ | ⟨g, cap, cur, h1, h2, h3, h4, h5, h6, h7⟩⟩ := h
  · exact .inl ⟨h1, List.eq_nil_of_length_eq_zero h2⟩
  · refine .inr ⟨g, cap, h2, blk_lt h3, h1, fun j hj i hi => ?_⟩
    have hb : j * 67 + i < d.length * 67 := by have := Nat.mul_le_mul_right 67 (show j + 1 ≤ d.length from hj); omega
    have e : cur[j * 67 + i]? = some (lineCell (d.getD j .zero) i) := by
      rw [← flat_get d j i hj hi, ← h7, List.getElem?_take_of_lt hb, Array.getElem?_toList]
    unfold World.cell? World.frozen?
    simp only [h3, e]
    exact ⟨rfl, by simp⟩
theorem line_box {W : World} {B : Nat} {x : CLine} (h : W.heap[B]? = some (.cells (lineArr x) 76 (0, 0))) : lineThere W B 0 = true ∧ lineAt W B 0 = lineArr x ∧ W.cell? ⟨B, 1, none⟩ = some (.bool x.d) := by
  have hc : ∀ i, i < 67 → W.cell? ⟨B, 0 + i, none⟩ = some (lineCell x i) := fun i hi => by
    unfold World.cell?
    simp only [h, Nat.zero_add]
    exact lineArr_get x i hi
  refine ⟨List.all_eq_true.2 fun i hi => ?_, ?_, hc 1 (by omega)⟩
  · rw [hc i (List.mem_range.1 hi)]
    simp [World.frozen?, h]
  · unfold lineAt
    show _ = (lineVals x).toArray
    unfold lineVals
    congr 1
    refine List.map_congr_left fun i hi => ?_
    rw [hc i (List.mem_range.1 hi)]
    rfl
theorem new_line (W : World) (x : CLine) : ∀ j u, (lineVals x)[j]? = some u → (W.alloc (.cells (lineArr x) 76)).cell? ((⟨W.heap.size, 0, none⟩ : Addr).add j) = some u := fun j u hj => by
  rw [addr_add]
  unfold World.cell?
  simp only [World.alloc_heap_new, Nat.zero_add]
  rw [show (lineArr x)[j]? = (lineVals x)[j]? by simp [lineArr]]
  exact hj
set_option maxHeartbeats 4000000 in
theorem cache_dirty {w : World} {b sb : Nat} {wb : Nat → Nat} {n m : Nat} {L : Nat → Nat → CLine} {st : Nat → Nat} (h : CacheIs w b sb wb n m L st) :
    Calls Try.prog 19 #[.pointer (some ⟨b, 0, none⟩)] w (DirtyEnd w (dl (validTo L m n))) := by
  have HQ : Hid (∀ e W', ((∃ q d, e = .returned (.func (.func 38) #[] #[.pointer (some ⟨q, 0, none⟩)]) ∧ DirtyIs W' w.heap.size q d ∧ d.Perm (dl (validTo L m n)) ∧ Asc d) ∧ Below w.heap.size w W') → DirtyEnd w (dl (validTo L m n)) e W') := fun _ _ z => z
  obtain ⟨i0, hi, hz0, hz1, hz2⟩ := A_line
  refine (callsIn_wide (n := 3)).1 ?_
  refine callsIn_of_wp_marks Try.func19 rfl trivial ?_ rfl
  simp only [Try.ntmps19, List.size_toArray, List.length_cons, List.length_nil, Nat.reduceAdd, Nat.reduceSub, Array.replicate_succ, Array.replicate_zero, List.push_toArray, List.append_toArray, List.nil_append, List.cons_append]
  gi_wp2_with (refine ⟨trivial, ?_⟩; gi_at_call 35; refine (callsIn_wide.2 (cache_lines _ _)).mono ?_; rintro e w' ⟨rfl, rfl⟩)
  have hs := Boxed.new w 63 (.slice none 0 0)
  have hb := cell_new_l (w.alloc (.cells #[.slice none 0 0] 63)) (.pointer (some ⟨b, 0, none⟩)) 25
  rw [World.size_alloc] at hb
  have hB0 : Below w.heap.size w ((w.alloc (.cells #[.slice none 0 0] 63)).alloc (.cells #[.pointer (some ⟨b, 0, none⟩)] 25)) := ((Below.refl _ w).alloc (Nat.le_refl _) _).alloc (by simp) _
  have hnm : n * m ≤ 128 := by rcases h.hn with rfl | rfl | rfl | rfl | rfl <;> rcases h.hm with rfl | rfl | rfl <;> omega
  refine wpIn_rangeFunc_ownH rfl (by omega) (gf := 51) (lb := #[.pointer (some ⟨w.heap.size + 1, 0, none⟩)]) rfl trivial (enters_of Try.func51 (by kernel_rfl) rfl)
    (lines_stops (h.below hB0) (3 - 1) (by omega) (w.heap.size + 1) w.heap.size h.lt.1 h.lt.2 (by simp; omega) hb.1) belowK_t (belowK_b (by simp; omega)) (Below.refl _ _) (fun _ => rfl)
    (fun pre W => (∃ v, Boxed W w.heap.size 63 v ∧ W.ownsRow w.heap.size 76 67 v (dl pre).length ((dl pre).flatMap lineVals) ∧ True) ∧ Below w.heap.size w W)
    (fun _ _ _ => False)
    (OwnFrom.and (Own.from (holdsRow_own w.heap.size w.heap.size 63 76 67 (fun pre => (dl pre).length) (fun pre => (dl pre).flatMap lineVals) (fun _ _ => True)) _) (ownFrom_below (Nat.le_refl _) (by simp; omega)))
    (fun _ _ _ _ _ hs _ _ => hs)
    ⟨⟨_, hs.alloc _, World.ownsRow_nil _ _ _ _, trivial⟩, hB0⟩
    (fun x a' W => ∃ Bx, w.heap.size < Bx ∧ W.heap[Bx]? = some (.cells (lineArr x) 76 (0, 0)) ∧ a' = { tmps := #[.pointer (some ⟨b, 0, none⟩), undef, .nilFunc, .pointer (some ⟨w.heap.size, 0, none⟩), .pointer (some ⟨Bx, 0, none⟩), .pointer (some ⟨b, 0, none⟩), .func (.func 51) #[] #[.pointer (some ⟨w.heap.size + 1, 0, none⟩)], .agg (lineArr x), undef, undef, undef, undef, undef, undef, undef, undef, undef], defers := [] })
    (fun x a' _ X Y row hs hg hr => by
      obtain ⟨Bx, h1, h2, h3⟩ := hs
      refine ⟨Bx, h1, ?_, h3⟩
      refine (hg.block Bx (blk_lt h2) (fun e => ?_)).trans h2
      obtain ⟨_, o, ho, hc⟩ := hr Bx e.symm
      rw [h2] at ho; cases ho; cases hc)
    ?assign ?body ?done ?stop
  case assign =>
    rintro l pre x W K ⟨⟨v, hv, hrow, _⟩, hB⟩ hK
    have h1 := hv.lt
    gi_wp2
    exact hK _ _ ((KeepsOthers.alloc _ _).from _) ((Below.refl _ W).alloc hB.size _) ⟨⟨v, hv.alloc _, hrow.alloc _, trivial⟩, hB.alloc hB.size _⟩ ⟨W.heap.size, h1, World.alloc_heap_new W _, rfl⟩
  case body =>
    rintro l pre x a' W hl ⟨r, hr⟩ ⟨⟨v, hv, hrow, _⟩, hB⟩ ⟨Bx, hBx, bX, rfl⟩ hlt
    have hc := hv.cell
    have HB := Lib.hid hB; have HR := Lib.hid hr; have HROW := Lib.hid hrow; have HV := Lib.hid hv; have HBX := Lib.hid bX
    have hdl := dl_len pre
    have e0 := line_box bX
    have HK1 : Hid ((dl pre).length + 1 ≤ maxLen ∧ ((dl pre).length + 1) * i0.bytes ≤ 140737488355328) := by
      have h1 : (dl pre).length + 1 ≤ 128 := by omega
      have h2 := Nat.mul_le_mul h1 hz2
      refine ⟨?_, by omega⟩
      show _ ≤ _
      unfold maxLen
      omega
    have HI := Lib.hid hi; have HZ := Lib.hid (And.intro hz0 hz1)
    have HH := Lib.hid hB0; have HHR := Lib.hid h
    have HBS : Hid (w.heap.size ≤ (W.alloc (.cells (lineArr x) 76)).heap.size) := by have := hB.size; show _ ≤ _; simp; omega
    clear hi hz0 hz1 hz2 h hB0 hnm hdl hlt hl hr bX hB hs hb
    obtain ⟨e1, e2, e3⟩ := e0
    have HLN : Hid ((lineVals x).length = 1 * 67) := lineVals_len x
    have HZC : Hid ((Value.agg (lineArr CLine.zero)).cells.size = 67) := lineArr_size _
    clear hrow
    cases hd : x.d with
    | true =>
      rw [hd] at e3
      have HD := Lib.hid hd
      clear hd
      gi_wp2_with (first | (gi_at_builtin; go_must (with_reducible refine wpListIn_append_own _ rfl (.tmp 10) (.tmp 12) 63 rfl w.heap.size 76 i0 (.agg (lineArr CLine.zero)) 67 i0.bytes Try.underlying63 HI.out HZ.out.1 HZ.out.2 rfl HZC.out (by decide) v (dl pre).length ((dl pre).flatMap lineVals) ?e1 (HROW.out.alloc _) ⟨W.heap.size, 0, none⟩ 1 1 (lineVals x) ?e2 HLN.out (new_line W x) (lineVals_one x) HK1.out.1 HK1.out.2 HBS.out ?_); go_must (case e1 => rfl); go_must (case e2 => rfl); go_must (intro v' w1 hown' hgrow _); go_must (obtain ⟨g', cap', rfl⟩ := ownsRow_succ hown'); go_must (obtain ⟨hv1, hv2, hr2, hk2, hb2⟩ := HV.out.appended (by decide) HROW.out HB.out.size (Nat.le_refl _) hown' hgrow; have hc1 := hv1.cell; have hf1 := hv1.frozen)) | ((with_reducible refine wpListIn_bline rfl (.tmp 11) rfl x ?e0 ?_); (case e0 => rfl)))
      refine ⟨hk2.from _, hb2, ⟨⟨_, hv2, ?_, trivial⟩, HB.out.trans hb2⟩⟩
      rw [dl_hit pre HD.out, List.length_append, List.flatMap_append]
      simpa using hr2
    | false =>
      rw [hd] at e3
      gi_wp2
      exact ⟨KeepsFrom.refl _ _, Below.refl _ _, ⟨⟨v, HV.out, by rw [dl_miss pre hd]; exact HROW.out, trivial⟩, HB.out⟩⟩
  case done =>
    rintro D ys W hD rfl ⟨⟨v, hv, hrow, _⟩, hB⟩ hK
    have hc := hv.cell
    have hlen : (dl (validTo L m n)).length ≤ 128 := Nat.le_trans (dl_len _) (Nat.le_trans (validTo_len L m n) hnm)
    have HB := Lib.hid hB; have HV := Lib.hid hv; have HNR := Lib.hid (hv.not_row (by decide) hrow)
    have HDD : Hid (w.heap.size ≤ D) := by simp at hD; show _ ≤ _; omega
    have hfin : ∀ W', W'.heap[D]? = some (.deferred (some [])) → Below w.heap.size w W' → Below w.heap.size w (W'.putObj D (.deferred none)) := fun W' hK hb => hb.trans (belowK_b (w := w) (Nat.le_refl _) W' D _ _ HDD.out hK rfl rfl)
    have HFIN := Lib.hid hfin
    clear hB hb hs hB0 hi hz0 hz1 hz2 hnm hD hfin
    rcases lines_of_row hrow with ⟨rfl, hnil⟩ | ⟨rb, cap, hrb, hlt, rfl, hl⟩
    · have HNIL := Lib.hid hnil
      clear hnil hrow hv
      gi_wp2_with (refine ⟨trivial, ?_⟩; gi_at_call 36; refine (callsIn_wide.2 (sort_nil _ _)).mono ?_; rintro e w' ⟨rfl, rfl⟩)
      refine ⟨by simp, .inl ⟨_, _, rfl, run_takeDeferred hK, ?_⟩⟩
      refine ⟨_, results_tmp rfl _ _ _, HQ.out _ _ ⟨⟨w.heap.size, [], rfl, ⟨Nat.le_refl _, _, cell_kept HV.out.cell (grownBy_putObj' _ D (.deferred none)) (fun r e => by cases e; exact ⟨_, hK, rfl⟩), .inl ⟨rfl, rfl⟩⟩, by rw [HNIL.out], fun i j hij hj => by simp at hj⟩, HFIN.out _ hK HB.out⟩⟩
    · have HS := Lib.hid (sort_lines hl hlt hlen cap)
      have hne : rb ≠ w.heap.size := fun e => HNR.out (by rw [e]; rfl)
      have hneD : D ≠ rb := fun e => by
        obtain ⟨_, h0 | ⟨g, cp, cur, h1, _, h3, _⟩⟩ := hrow
        · cases h0.1
        · cases h1
          rw [← e, hK] at h3
          cases h3
      have HNE := Lib.hid hne; have HND := Lib.hid hneD; have HRB := Lib.hid hrb; have HLT := Lib.hid hlt; have HKK := Lib.hid hK
      clear hrow hl hlt hlen hne hneD hrb hK hv
      gi_wp2_with (refine ⟨trivial, ?_⟩; gi_at_call 36; refine (callsIn_wide.2 HS.out).mono ?_; rintro e w' ⟨rfl, hsort⟩)
      obtain ⟨d, hp, ha, hl, ht⟩ := hsort
      have hK' : w'.heap[D]? = some (.deferred (some [])) := ht.keep HND.out HKK.out
      have hV' : Boxed w' w.heap.size 63 (.slice (some ⟨rb, 0, none⟩) (dl (validTo L m n)).length cap) := ht.keep (fun e => HNE.out e.symm) HV.out
      have hB' : Below w.heap.size w w' := HB.out.trans (ht.below HB.out.size (fun g e => by rw [e]; exact HRB.out))
      refine ⟨by simp, .inl ⟨_, _, rfl, run_takeDeferred hK', ?_⟩⟩
      refine ⟨_, results_tmp rfl _ _ _, HQ.out _ _ ⟨⟨w.heap.size, d, rfl, ⟨Nat.le_refl _, _, cell_kept hV'.cell (grownBy_putObj' _ D (.deferred none)) (fun r e => by cases e; exact ⟨_, hK', rfl⟩), .inr ⟨rb, cap, HRB.out, ?_, by rw [hp.length_eq], hl.block (World.putObj_heap_other (fun e => HND.out e.symm))⟩⟩, hp, ha⟩, HFIN.out _ hK' hB'⟩⟩
      have := ht.size; have := HLT.out
      simp; omega
  case stop =>
    rintro D c pre W _ _ h _
    exact h.elim
set_option maxHeartbeats 1000000 in
theorem dirty_2_nil (F : Fence) (k : Nat) (hF : F.fn 38) (hro : F.round = none) (l q : Nat) {W : World} (J : List Told → World → Prop) (hq : W.cell? ⟨q, 0, none⟩ = some (.slice none 0 0))
    (h0 : J [] W) :
    CallsIn F k Try.prog 38 #[.func (.yield l) #[] #[], .pointer (some ⟨q, 0, none⟩)] W fun e W' => (∃ v, e = .returned v) ∧ ∃ xs : List Told, xs.map (·.1) = [] ∧ J xs W' := by
  have H0 := Lib.hid h0
  clear h0
  refine callsIn_of_wp Try.func38 rfl hF ?_ hro
  simp only [Try.ntmps38, List.size_toArray, List.length_cons, List.length_nil, Nat.reduceAdd, Nat.reduceSub, Array.replicate_succ, Array.replicate_zero, List.push_toArray, List.append_toArray, List.nil_append, List.cons_append]
  gi_wp2
  refine wpIn_loop_rounds 1 ?_
  rw [roundsIn_succ]
  gi_wp2
  go_end0
  exact ⟨⟨_, rfl⟩, [], rfl, H0.out⟩
/-- the iterator over them -/
theorem dirty_seq {w : World} {n0 q : Nat} {d : List CLine} (h : DirtyIs w n0 q d) (k N : Nat) (hk : 1 ≤ k) (S : Nat → Prop) (hS : ∀ g, n0 ≤ g → g < w.heap.size → ¬ S g) (hN : N ≤ w.heap.size) (hsm : d.length ≤ 128) :
    SeqPre Fence.wide k Try.prog 38 #[.pointer (some ⟨q, 0, none⟩)] toldArgs (fun pre x W => Own64 W N x.2.1 x.1.data ∧ x.1 = d.getD pre.length .zero) (Turned S) (fun xs => xs.map (·.1) = d) d.length w := fun l J W hW hJ hY h0 => by
  obtain ⟨hq0, v, hv, hd⟩ := h
  have hlt := World.block_lt_of_cell? w _ hv
  have hv' : W.cell? ⟨q, 0, none⟩ = some v := (hW.cell (p := ⟨q, 0, none⟩) hlt).trans hv
  rcases hd with ⟨rfl, rfl⟩ | ⟨rb, cap, h1, h2, rfl, h3⟩
  · exact dirty_2_nil Fence.wide k trivial rfl l q J hv' h0
  · exact dirty_2 Fence.wide k trivial rfl hk l q rb cap N S (hS rb h1 h2) d hv' (h3.block (hW.block _ h2)) hk (Nat.lt_of_lt_of_le h2 hW.size) (Nat.le_trans hN hW.size) hsm J hJ hY h0
theorem turnedK_t {S : Nat → Prop} {A B C : World} (h : Turned S A B) (k : Turned S B C) : Turned S A C := h.trans k fun _ => .inl
theorem turnedK_b {S : Nat → Prop} {n : Nat} (hS : ∀ g, n ≤ g → S g) (W : World) (l : Nat) (o o' : Obj) (hl : n ≤ l) (h1 : W.heap[l]? = some o) (h2 : o.isCells = false) (h3 : o.isWalk = false) : Turned S W (W.putObj l o') :=
  ⟨rfl, rfl, rfl, by simp, fun g _ hn => World.putObj_heap_other (fun e => hn (by rw [e]; exact hS l hl))⟩
end Go.Proofs.Ytlcedcjcecahoaa
