/- slices.SortFunc over lines by their tags. No condition. -/
import Derived.Test.YtlcedcjcecahoaaSortLay
import Derived.Test.YtlcedcjcecahoaaDirty2
set_option linter.unusedVariables false
set_option linter.unusedSimpArgs false
namespace Go.Proofs.Ytlcedcjcecahoaa
open Go.RowKit Go.Shelf Go.Sort
set_option maxRecDepth 100000
attribute [local go_sem ↓] ld_line st_line sl_64
attribute [local go_sem] rl_line rs_line set_new there_new lineAt_new zc_line run_slice64_all
instance : Inhabited CLine := ⟨CLine.zero⟩
def tagCmp (x y : CLine) : Int := if x.tag < y.tag then -1 else 1
theorem ltOf_tag (x y : CLine) : ltOf tagCmp x y = decide (x.tag < y.tag) := by
  unfold ltOf tagCmp
  by_cases h : x.tag < y.tag <;> simp [h]
theorem swo_tag : SWO (ltOf tagCmp) where
  irrefl x := by rw [ltOf_tag]; simp
  trans x y z h1 h2 := by rw [ltOf_tag] at *; simp at *; omega
  ntrans x y z h1 h2 := by rw [ltOf_tag] at *; simp at *; omega
theorem new_cell2 (W : World) (l : CLine) : (W.alloc (.cells (lineArr l) 76)).cell? ⟨W.heap.size, 2, none⟩ = some (.int .u64 l.tag) := by
  unfold World.cell?
  simp only [World.alloc_heap_new]
  exact la2 l
theorem dirty_1 (x y : CLine) (W : World) :
    Calls Try.prog 37 #[.agg (lineArr x), .agg (lineArr y)] W fun e w' => e = .returned (.int .i64 (tagCmp x y)) ∧ ∃ q os', w' = grow (W.drewN q) os' := by
  have c1 := new_cell2 W x
  have c2 : ((W.alloc (.cells (lineArr x) 76)).alloc (.cells (lineArr y) 76)).cell? ⟨W.heap.size, 2, none⟩ = some (.int .u64 x.tag) := (World.cell?_alloc_lt _ _ _ (by simp)).trans c1
  have c3 : ((W.alloc (.cells (lineArr x) 76)).alloc (.cells (lineArr y) 76)).cell? ⟨W.heap.size + 1, 2, none⟩ = some (.int .u64 y.tag) := by
    have := new_cell2 (W.alloc (.cells (lineArr x) 76)) y
    rw [World.size_alloc] at this
    exact this
  have HT : Hid (x.tag < y.tag → tagCmp x y = -1) := fun h => by unfold tagCmp; rw [if_pos h]
  have HF : Hid (¬ x.tag < y.tag → tagCmp x y = 1) := fun h => by unfold tagCmp; rw [if_neg h]
  clear c1
  go_enter Try.func37, Try.ntmps37
  go_wp2
  · go_ret
    exact ⟨ret_int (HT.out (by assumption)).symm, 0, _, by rw [alloc_eq_grow, alloc_eq_grow, grow_grow]; rfl⟩
  · go_ret
    exact ⟨ret_int (HF.out (by assumption)).symm, 0, _, by rw [alloc_eq_grow, alloc_eq_grow, grow_grow]; rfl⟩
theorem lineVals_get (l : CLine) (i : Nat) (h : i < 67) : (lineVals l)[i]! = lineCell l i := by simp [lineVals, h]
theorem lineVals_len (l : CLine) : (lineVals l).length = 67 := by simp [lineVals]
theorem lineVals_one (l : CLine) : ∀ v ∈ lineVals l, v.oneCell' = true := fun v hv => by
  simp only [lineVals, List.mem_map] at hv
  obtain ⟨i, _, rfl⟩ := hv
  exact lineCell_one l i
theorem holds_of_lines {w : World} {rb : Nat} {d : List CLine} (h : LinesAt w rb d) : HoldsK lineVals 67 w rb 0 d.toArray := by
  intro t ht
  rw [size_flatK] at ht
  have ht' : t < d.length * 67 := by simpa using ht
  rw [get_flatK _ _ _ _ (by simpa using ht')]
  have hj : t / 67 < d.length := by omega
  have := h (t / 67) hj (t % 67) (by omega)
  rw [show 0 + t = t / 67 * 67 + t % 67 by omega]
  show w.cell? _ = some ((lineVals d.toArray[t / 67]!)[t % 67]!) ∧ _
  rw [lineVals_get _ _ (by omega), show d.toArray[t / 67]! = d.getD (t / 67) .zero from ?_]
  · exact this
  · simp [List.getD, hj]
theorem lines_of_holds {w : World} {rb : Nat} {d : Array CLine} (h : HoldsK lineVals 67 w rb 0 d) : LinesAt w rb d.toList := fun j hj i hi => by
  have hj' : j < d.size := by simpa using hj
  have := HoldsK.cell h hj' hi
  rw [lineVals_get _ _ hi, Nat.zero_add] at this
  have e : d[j]! = d.toList.getD j .zero := by simp [List.getD, hj']
  rw [e] at this
  exact this
def Asc (d : List CLine) : Prop := ∀ i j, i < j → j < d.length → (d.getD i .zero).tag ≤ (d.getD j .zero).tag
def SortAt (w : World) (rb : Nat) (d : List CLine) (w' : World) : Prop := ∃ d', d'.Perm d ∧ Asc d' ∧ LinesAt w' rb d' ∧ Turned (· = rb) w w'
theorem turned_sortWorld {w : World} {rb n : Nat} {d : Array CLine} {os : Array Obj} (hb : rb < w.heap.size) : Turned (· = rb) w (sortWorldK lineVals 67 w rb 0 n d os) := by
  refine ⟨rfl, rfl, rfl, ?_, fun g hg hn => ?_⟩
  · show w.heap.size ≤ ((w.heap.modify rb _) ++ os).size
    simp
  · show ((w.heap.modify rb _) ++ os)[g]? = _
    rw [Array.getElem?_append_left (by simpa using hg), Array.getElem?_modify, if_neg (fun e => hn e.symm)]
theorem sort_lines {w : World} {rb : Nat} {d : List CLine} (h : LinesAt w rb d) (hlt : rb < w.heap.size) (hsz : d.length ≤ 128) (cap : Nat) :
    Calls Try.prog 36 #[.slice (some ⟨rb, 0, none⟩) d.length cap, .func (.func 37) #[] #[]] w fun e w' => e = .returned (.tuple #[]) ∧ SortAt w rb d w' := by
  have eg : ∀ args w, (callFunc 37 args).run Try.prog w = .ok (.enter 37 args) w := enters_of Try.func37 (by kernel_rfl) rfl
  have hcmp : CmpLays Try.prog 37 #[] lineVals 67 tagCmp rb 0 d.toArray.size w := fun _ _ _ _ x y => dirty_1 x y _
  have e0 : d.toArray.size = d.length := by simp
  have hsz2 : d.toArray.size < 4611686018427387904 := by omega
  have hcon := AnyQ.slices_SortFunc sortL 67 Try.isAgg76 Try.sizeOf76 lineVals lineVals_len lineVals_one tagCmp swo_tag 37 #[] rb 0 cap d.toArray w eg hcmp (holds_of_lines h) hlt hsz2
  change Calls Try.prog 36 _ _ _ at hcon
  rw [e0] at hcon
  refine hcon.mono fun e w' ⟨he, d', n, os, ⟨hs, _, hp⟩, ha, hw⟩ => ⟨he, d'.toList, ?_, ?_, ?_, ?_⟩
  · rw [Array.extract_eq_self_of_le (by omega), Array.extract_eq_self_of_le (by simp)] at hp
    simpa using hp
  · intro i j hij hj
    have hj' : j < d'.size := by simpa using hj
    have := ha i j (Nat.zero_le _) hij (by omega)
    rw [ltOf_tag] at this
    have e1 : d'[i]! = d'.toList.getD i .zero := by simp [List.getD, show i < d'.size by omega]
    have e2 : d'[j]! = d'.toList.getD j .zero := by simp [List.getD, hj']
    rw [e1, e2] at this
    simpa using this
  · rw [hw]
    exact lines_of_holds (holdsK_grow _ _ _ _ _ _ _ (by show rb < (w.heap.modify rb _).size; simpa using hlt) (holdsK_putRowK _ _ (Sort.ahead w n) rb 0 d.toArray d' (holdsK_ahead _ _ _ _ _ _ _ (holds_of_lines h)) (by rw [hs, show d.toArray.size = d.length by simp])))
  · rw [hw]
    exact turned_sortWorld hlt
end Go.Proofs.Ytlcedcjcecahoaa
