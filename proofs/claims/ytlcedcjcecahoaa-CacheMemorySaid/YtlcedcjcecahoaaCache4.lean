/- Contracts of the cache's Fill and Drop. No condition. -/
import Derived.Test.YtlcedcjcecahoaaCache3
import Derived.Deep.AppendLies
import Derived.StillTailTactics
import Derived.BigRegion
import Derived.Deep.RegionWith
import Derived.Deep.RegionHeld3
import Derived.Deep.RegionLaw
import Derived.Deep.QuietTactic
import Derived.BigQuiet
import Derived.Deep.LoopGhost
import Derived.Deep.DeepCutAuto
import Derived.Deep.DeepFit
import Derived.Deep.DeepMust
import Derived.Handy
set_option linter.unusedVariables false
set_option linter.unusedSimpArgs false
namespace Go.Proofs.Ytlcedcjcecahoaa
open Go.RowKit
set_option maxRecDepth 100000
/-! a line that is built; a line laid into a new block -/
def buildL (y : Value) : Sem Value := Instr.build 76 #[(0, .bool true), (2, y)]
theorem bd_line (y : Value) : Instr.build 76 #[(0, .bool true), (2, y)] = buildL y := rfl
theorem rb_line (y : Int) (w : World) : (buildL (.int .u64 y)).run Try.prog w = .ok (.agg (lineArr ⟨true, false, y, fun _ => 0⟩)) w := by kernel_rfl
def buildZ : Sem Value := Instr.build 76 #[]
theorem bd_zero : Instr.build 76 #[] = buildZ := rfl
theorem rb_zero (w : World) : buildZ.run Try.prog w = .ok (.agg (lineArr CLine.zero)) w := by kernel_rfl
theorem run_allocL (w : World) : (Instr.alloc 76 true (.tuple #[])).run Try.prog w = .ok (.pointer (some ⟨w.heap.size, 0, none⟩)) (w.alloc (.cells (lineArr CLine.zero) 76)) := by kernel_rfl
theorem there_new (w : World) (l : CLine) : lineThere (w.alloc (.cells (lineArr l) 76)) w.heap.size 0 = true := by
  refine List.all_eq_true.2 fun i hi => ?_
  have hi := List.mem_range.1 hi
  rw [blk_cell (blk_alloc w _), blk_frozen (blk_alloc w _), Nat.zero_add, lineArr_get _ _ hi]
  rfl
def putVals (C : Array Value) (o : Nat) : List Value → Array Value
  | [] => C
  | v :: r => putVals (C.setIfInBounds o v) (o + 1) r
theorem putVals_get : ∀ (vs : List Value) (C : Array Value) (o i : Nat), o + vs.length ≤ C.size → (putVals C o vs)[i]? = if o ≤ i ∧ i < o + vs.length then vs[i - o]? else C[i]?
  | [], C, o, i, _ => by rw [if_neg (by simp)]; rfl
  | v :: r, C, o, i, h => by
    simp only [List.length_cons] at h
    unfold putVals
    rw [putVals_get r _ (o + 1) i (by simp; omega)]
    simp only [List.length_cons]
    by_cases h1 : o + 1 ≤ i ∧ i < o + 1 + r.length
    · rw [if_pos h1, if_pos (by omega)]
      obtain ⟨k, rfl⟩ : ∃ k, i = o + 1 + k := ⟨i - (o + 1), by omega⟩
      rw [show o + 1 + k - (o + 1) = k by omega, show o + 1 + k - o = k + 1 by omega, List.getElem?_cons_succ]
    · rw [if_neg h1, Array.getElem?_setIfInBounds]
      by_cases h2 : o = i
      · subst h2
        rw [if_pos rfl, if_pos (by omega), if_pos (by omega)]
        simp
      · rw [if_neg h2, if_neg (by omega)]
theorem setCells_new (w : World) (t : TypeId) : ∀ (vs : List Value) (C : Array Value) (o : Nat), (w.alloc (.cells C t)).setCells w.heap.size o vs = w.alloc (.cells (putVals C o vs) t)
  | [], C, o => rfl
  | v :: r, C, o => by
    unfold World.setCells putVals
    rw [← setCells_new w t r (C.setIfInBounds o v) (o + 1)]
    congr 1
    simp only [World.setCell, World.alloc]
    congr 1
    apply Array.ext_getElem?
    intro g
    rw [Array.getElem?_modify, Array.getElem?_push, Array.getElem?_push]
    by_cases h : w.heap.size = g
    · subst h; simp
    · rw [if_neg h, if_neg (by omega), if_neg (by omega)]
theorem set_new (w : World) (l l2 : CLine) : (w.alloc (.cells (lineArr l) 76)).setCells w.heap.size 0 (lineArr l2).toList = w.alloc (.cells (lineArr l2) 76) := by
  rw [setCells_new]
  refine congrArg (fun C => w.alloc (.cells C 76)) ?_
  apply Array.ext_getElem?
  intro i
  have hl : (lineArr l2).toList.length = 67 := by simp [lineArr_size]
  rw [putVals_get _ _ _ _ (by rw [hl, lineArr_size]; omega), hl]
  by_cases hi : i < 67
  · rw [if_pos (by omega), Nat.sub_zero, Array.getElem?_toList]
  · rw [if_neg (by omega), Array.getElem?_eq_none (by rw [lineArr_size]; omega), Array.getElem?_eq_none (by rw [lineArr_size]; omega)]
theorem zc_line : Try.zeroCells76 = lineArr CLine.zero := by kernel_rfl
/-! Fill -/
theorem fill_nil (x : Int) (a : Option Addr) (l c : Nat) (w : World) : Calls Try.prog 13 #[.pointer none, .int .u64 x, .slice a l c] w fun e w' => e = .returned (.tuple #[.int .u64 0, .slice none 0 0, .bool false, .int .i64 2]) ∧ Below w.heap.size w w' := by
  have HB := Lib.hid (Below.refl w.heap.size w)
  go_enter Try.func13, Try.ntmps13
  go_wp2
  exact bodyPost_ret (v := .tuple #[.int .u64 0, .slice none 0 0, .bool false, .int .i64 2]) (by simp [results, Try.results13, go_sem]) rfl ⟨rfl, HB.out⟩
/-- the way that a line is put into -/
def fillWay (m : Nat) (L : Nat → CLine) (s : Nat) : Nat := if first (fun j => !(L j).v) m < m then first (fun j => !(L j).v) m else victim m s
theorem fillWay_lt {m : Nat} (h : Ways m) (L : Nat → CLine) (s : Nat) : fillWay m L s < m := by
  unfold fillWay
  split
  · assumption
  · exact victim_lt h
def newL (x : Int) (D : Nat → Int) : CLine := ⟨true, false, lbase x, D⟩
theorem vict_I (m s : Nat) : ((victim m s : Nat) : Int) = victim m s := rfl
theorem below_of_grown_nil {a b : World} (h : a.grownBy b none) : Below a.heap.size a b := ⟨h.os, h.tape, h.output, h.size, fun k hk => h.block k hk (fun e => nomatch e)⟩
/-- 64 bytes in a row of the call's own -/
def Own64 (w' : World) (B g : Nat) (D : Nat → Int) : Prop := B ≤ g ∧ ∃ cur, w'.heap[g]? = some (.cells cur 5 (0, 0)) ∧ ∀ q, q < 64 → cur[q]? = some (.int .u8 (D q))
/-- what Fill answers of the line that has to go -/
def FillR (w w' : World) (old : CLine) (e : Ending) : Prop :=
  ((old.v && old.d) = false ∧ e = .returned (.tuple #[.int .u64 0, .slice none 0 0, .bool false, .int .i64 0])) ∨
  ((old.v && old.d) = true ∧ ∃ g cap, e = .returned (.tuple #[.int .u64 old.tag, .slice (some ⟨g, 0, none⟩) 64 cap, .bool true, .int .i64 0]) ∧ Own64 w' w.heap.size g old.data)
def FillAt (w : World) (b sb : Nat) (wb : Nat → Nat) (n m : Nat) (L : Nat → Nat → CLine) (st : Nat → Nat) (x : Int) (D : Nat → Int) (e : Ending) (w' : World) : Prop :=
  CacheIs w' b sb wb n m (upS2 L (setOf n x) (fillWay m (L (setOf n x)) (st (setOf n x))) (newL x D)) (upS st (setOf n x) (touched m (st (setOf n x)) (fillWay m (L (setOf n x)) (st (setOf n x))))) ∧ Turned (CacheOwn sb wb n) w w' ∧ FillR w w' (L (setOf n x) (fillWay m (L (setOf n x)) (st (setOf n x)))) e
theorem upS2_2 (L : Nat → Nat → CLine) (s i : Nat) (l l2 : CLine) : upS2 (upS2 L s i l) s i l2 = upS2 L s i l2 := by
  funext t j
  unfold upS2 upL
  by_cases e : t = s
  · subst e
    rw [if_pos rfl, if_pos rfl, if_pos rfl]
    by_cases e2 : j = i
    · simp [e2]
    · simp [e2]
  · simp [e]
theorem way_fill {w : World} {g m i : Nat} {L : Nat → CLine} {x : Int} {D : Nat → Int} (hi : (i + 1) * 67 ≤ m * 67) (h : w.rowIs g 76 (m * 67) (fun q => if i * 67 + 3 ≤ q ∧ q < i * 67 + 3 + 64 then .int .u8 (D (q - (i * 67 + 3))) else wayCell (upL L i ⟨true, false, lbase x, fun _ => 0⟩) q)) :
    w.rowIs g 76 (m * 67) (wayCell (upL L i (newL x D))) := by
  refine h.congr fun q hq => ?_
  by_cases h1 : i * 67 ≤ q ∧ q < i * 67 + 67
  · obtain ⟨r, rfl⟩ : ∃ r, q = i * 67 + r := ⟨q - i * 67, by omega⟩
    have hu : ∀ l, upL L i l i = l := fun l => by simp [upL]
    rw [wayCell_at (upL L i (newL x D)) i r (by omega), hu]
    by_cases r2 : 3 ≤ r
    · rw [if_pos (by omega)]
      unfold lineCell newL
      rw [if_neg (by omega), if_neg (by omega), if_neg (by omega), show i * 67 + r - (i * 67 + 3) = r - 3 by omega]
    · rw [if_neg (by omega), wayCell_at _ i r (by omega), hu]
      unfold lineCell newL
      by_cases r0 : r = 0
      · rw [if_pos r0, if_pos r0]
      · rw [if_neg r0, if_neg r0]
        by_cases r1 : r = 1
        · rw [if_pos r1, if_pos r1]
        · rw [if_neg r1, if_neg r1, if_pos (by omega), if_pos (by omega)]
  · rw [if_neg (by omega)]
    unfold wayCell upL
    rw [if_neg (by omega), if_neg (by omega)]
theorem newL_ok {x : Int} (h0 : 0 ≤ x) (h1 : x < 18446744073709551616) {D : Nat → Int} (hD : ∀ i, 0 ≤ D i ∧ D i ≤ 255) : (newL x D).Ok := ⟨by unfold newL lbase; simp only; omega, hD⟩
attribute [local go_sem ↓] ld_line st_line bd_line bd_zero sl_64
attribute [local go_sem] rl_line rs_line rb_line rb_zero run_slice64_all set_new there_new zc_line
set_option maxHeartbeats 8000000 in
theorem fill_ok {w : World} {b sb : Nat} {wb : Nat → Nat} {n m : Nat} {L : Nat → Nat → CLine} {st : Nat → Nat} (h : CacheIs w b sb wb n m L st) (x : Int) (h0 : 0 ≤ x) (h1 : x < 18446744073709551616) (hno : wayI m (L (setOf n x)) x = -1)
    (ab ao cap : Nat) (D : Nat → Int) (hD : ∀ i, 0 ≤ D i ∧ D i ≤ 255) (hrow : IsRow w (some ⟨ab, ao, none⟩) 64 (fun q => .int .u8 (D q))) (hap : ¬ CacheOwn sb wb n ab) :
    Calls Try.prog 13 #[.pointer (some ⟨b, 0, none⟩), .int .u64 x, .slice (some ⟨ab, ao, none⟩) 64 cap] w (FillAt w b sb wb n m L st x D) := by
  have HF := Lib.hid (cache_find h x h0 h1)
  rw [hno] at HF
  have hs := setOf_lt h.hn x
  have H := Lib.hid h
  have HS := Lib.hid hs
  have hil := fillWay_lt h.hm (L (setOf n x)) (st (setOf n x))
  have HIL := Lib.hid hil
  have HX := Lib.hid (And.intro h0 h1)
  have HV := fun W => Lib.hid (plru_victim h.hm (h.hst _ hs) W)
  have HIX := Lib.hid (fun (W : World) (hr : W.rowIs (wb (setOf n x)) 76 (m * 67) (wayCell (L (setOf n x)))) => index_fill hr h.hm (fun l => !l.v) (fun W' l hb => fill_1 l W'))
  have HLI := fun W => Lib.hid (cache_line x h0 h1 W)
  have HFW := Lib.hid (show fillWay m (L (setOf n x)) (st (setOf n x)) = if first (fun j => !(L (setOf n x) j).v) m < m then first (fun j => !(L (setOf n x) j).v) m else victim m (st (setOf n x)) from rfl)
  have HFI := Lib.hid (show firstI (fun j => !(L (setOf n x) j).v) m = if first (fun j => !(L (setOf n x) j).v) m < m then (first (fun j => !(L (setOf n x) j).v) m : Int) else -1 from rfl)
  have HNE := Lib.hid (h.sb_ne.2 _ hs)
  unfold FillAt
  have HNL := Lib.hid (newL_ok h0 h1 hD)
  have HNZ := Lib.hid (newL_ok (D := fun _ => 0) h0 h1 (fun _ => by omega))
  have HMI := Lib.hid (Nat.mul_le_mul_right 67 (show fillWay m (L (setOf n x)) (st (setOf n x)) + 1 ≤ m from hil))
  have HLB := Lib.hid (show newL x (fun _ => 0) = ⟨true, false, lbase x, fun _ => 0⟩ from rfl)
  have HABL := Lib.hid (show ab < w.heap.size from by obtain ⟨_, _, e, hl, _⟩ := hrow (by omega); cases e; exact hl)
  have HROW := Lib.hid hrow; have HAP := Lib.hid hap
  clear h h0 h1 hno hs hil hrow hap hD
  generalize setOf n x = s at *
  generalize fillWay m (L s) (st s) = i at *
  have him : (i : Int) < m := by have := HIL.out; omega
  go_enter Try.func13, Try.ntmps13
  go_wp2_with fail
  refine HF.out.mono ?_
  rintro e w2 ⟨rfl, hb2⟩
  have HB2 := Lib.hid hb2
  have H2 := Lib.hid (H.out.below hb2)
  clear hb2
  have c0 : w2.cell? ⟨sb, s * 2, none⟩ = some (.slice (some ⟨wb s, 0, none⟩) m m) := by rw [H2.out.sets.cell (by have := HS.out; omega), setCellF_0]
  go_wp2_with fail
  refine (HIX.out w2 (H2.out.ways s HS.out)).mono ?_
  rintro e w3 ⟨rfl, hb3⟩
  have HB3 := Lib.hid (HB2.out.trans (hb3.mono HB2.out.size))
  have H3 := Lib.hid (H.out.below HB3.out)
  clear hb3 c0
  rw [HFI.out]
  have c0 : w3.cell? ⟨sb, s * 2, none⟩ = some (.slice (some ⟨wb s, 0, none⟩) m m) := by rw [H3.out.sets.cell (by have := HS.out; omega), setCellF_0]
  have c1 : w3.cell? ⟨sb, s * 2 + 1, none⟩ = some (.int .i64 (st s : Nat)) := by rw [H3.out.sets.cell (by have := HS.out; omega), setCellF_1]
  generalize hfi : first (fun j => !(L s j).v) m = fi at *
  have HFIE := Lib.hid hfi
  clear hfi
  go_upto_if 32 with fail
  go_cut [11] (fun s11 wx => s11 = .int .i64 (i : Nat) ∧ ∃ k, wx = w3.drewN k)
  case first =>
    by_cases hf : fi < m
    · have hi : Hid (i = fi) := by show i = fi; rw [HFW.out, if_pos hf]
      rw [if_pos hf]
      have e1 : decide ((fi : Int) < 0) = false := by simp only [decide_eq_false_iff_not]; omega
      go_wp2_with fail
      go_meet
      exact ⟨by rw [hi.out], 0, rfl⟩
    · have hi : Hid (i = victim m (st s)) := by show i = _; rw [HFW.out, if_neg hf]
      rw [if_neg hf]
      go_wp2_with fail
      go_quiet ((go_at_call 32; exact Calls.quiet_of_same ((HV _).out.mono fun _ _ q => ⟨q.1, q.2.symm⟩)))
      go_wp2_with fail
      go_meet
      exact ⟨by rw [hi.out], _, rfl⟩
  case rest =>
    obtain ⟨rfl, kk, rfl⟩ := hcut
    have HB4 : Hid (Below w.heap.size w (w3.drewN kk)) := HB3.out.trans ⟨rfl, rfl, rfl, Nat.le_refl _, fun _ _ => rfl⟩
    have H4 := Lib.hid (H.out.below HB4.out)
    clear HFW HFI HFIE c0 c1 HIX HV H2 H3 HB2 HB3 HF
    generalize w3.drewN kk = w4 at *
    have c0 : w4.cell? ⟨sb, s * 2, none⟩ = some (.slice (some ⟨wb s, 0, none⟩) m m) := by rw [H4.out.sets.cell (by have := HS.out; omega), setCellF_0]
    have e1 := way_there (H4.out.ways s HS.out) HIL.out
    have e2 := way_line (H4.out.ways s HS.out) HIL.out
    generalize hold : L s i = old at *
    have HOLD := Lib.hid hold
    clear hold
    go_wp2_with fail
    have HOB : Hid ((w4.alloc (.cells (lineArr old) 76)).heap[w4.heap.size]? = some (.cells (lineArr old) 76 (0, 0))) := blk_alloc w4 _
    have HB5 : Hid (Below w.heap.size w (w4.alloc (.cells (lineArr old) 76))) := HB4.out.alloc HB4.out.size _
    have H5 := Lib.hid (H.out.below HB5.out)
    have HOG : Hid (¬ CacheOwn sb wb n w4.heap.size ∧ w.heap.size ≤ w4.heap.size) := ⟨by
      have h4 := H4.out
      rintro (e | ⟨t, ht, e⟩)
      · have := h4.sets.lt; omega
      · have := (h4.ways t ht).lt; omega, HB4.out.size⟩
    clear H4 HB4 e1 e2
    generalize hw5 : w4.alloc (.cells (lineArr old) 76) = w5 at *
    generalize w4.heap.size = ob at *
    clear hw5 c0
    have c0 : w5.cell? ⟨sb, s * 2, none⟩ = some (.slice (some ⟨wb s, 0, none⟩) m m) := by rw [H5.out.sets.cell (by have := HS.out; omega), setCellF_0]
    have C0 := Lib.hid c0
    have HTH : Hid (lineThere w5.drew (wb s) (i * 67) = true) := way_there ((H5.out.ways s HS.out).drew) HIL.out
    have him2 : (0 : Int) ≤ (i : Int) := by omega
    refine wp_region_held_drew (S := fun wq => wq.cell? ⟨sb, s * 2, none⟩ = some (.slice (some ⟨wb s, 0, none⟩) m m)) (by kernel_rfl) C0.out (fun hH => ?_)
    refine wpAnyH_take (i := 0) (oi := ⟨some 50, _, _, _, _, _⟩) (v := ?_) rfl (by kernel_rfl) (by kernel_rfl) (by kernel_rfl) (fun _ _ _ h => h) (Or.inl ⟨by kernel_rfl, ?_⟩) hH ?_
    rotate_left 1
    · intro wq hq; have c0 := hq; first | (go_simp; done) | (go_simp; with_reducible rfl)
    simp only [Act.put, List.setIfInBounds_toArray, List.set_cons_zero, List.set_cons_succ]
    refine wpAnyH_take (i := 1) (oi := ⟨some 51, _, _, _, _, _⟩) (v := ?_) rfl (by kernel_rfl) (by kernel_rfl) (by kernel_rfl) (fun _ _ _ h => h) (Or.inl ⟨by kernel_rfl, ?_⟩) hH ?_
    rotate_left 1
    · intro wq hq; have c0 := hq; first | (go_simp; done) | (go_simp; with_reducible rfl)
    simp only [Act.put, List.setIfInBounds_toArray, List.set_cons_zero, List.set_cons_succ]
    refine wpAnyH_take (i := 2) (oi := ⟨some 52, _, _, _, _, _⟩) (v := ?_) rfl (by kernel_rfl) (by kernel_rfl) (by kernel_rfl) (fun _ _ _ h => h) (Or.inl ⟨by kernel_rfl, ?_⟩) hH ?_
    rotate_left 1
    · intro wq hq; have c0 := hq; first | (go_simp; done) | (go_simp; with_reducible rfl)
    simp only [Act.put, List.setIfInBounds_toArray, List.set_cons_zero, List.set_cons_succ]
    refine wpAnyH_take (i := 3) (oi := ⟨some 53, _, _, _, _, _⟩) (v := ?_) rfl (by kernel_rfl) (by kernel_rfl) (by kernel_rfl) (fun _ _ _ h => h) (Or.inl ⟨by kernel_rfl, ?_⟩) hH ?_
    rotate_left 1
    · intro wq hq; have c0 := hq; first | (go_simp; done) | (go_simp; with_reducible rfl)
    simp only [Act.put, List.setIfInBounds_toArray, List.set_cons_zero, List.set_cons_succ]
    refine wpAnyH_take (i := 4) (oi := ⟨some 54, _, _, _, _, _⟩) (v := ?_) rfl (by kernel_rfl) (by kernel_rfl) (by kernel_rfl) (fun _ _ _ h => h) (Or.inl ⟨by kernel_rfl, ?_⟩) hH ?_
    rotate_left 1
    · intro wq hq; have c0 := hq; first | (go_simp; done) | (go_simp; with_reducible rfl)
    simp only [Act.put, List.setIfInBounds_toArray, List.set_cons_zero, List.set_cons_succ]
    refine wpAnyH_take (i := 5) (oi := ⟨some 55, _, _, _, _, _⟩) (v := ?_) rfl (by kernel_rfl) (by kernel_rfl) (by kernel_rfl) (fun _ _ _ h => h) (Or.inl ⟨by kernel_rfl, ?_⟩) hH ?_
    rotate_left 1
    · intro wq hq; have c0 := hq; first | (go_simp; done) | (go_simp; with_reducible rfl)
    simp only [Act.put, List.setIfInBounds_toArray, List.set_cons_zero, List.set_cons_succ]
    refine wpAnyH_ready (rs := [6]) (by kernel_rfl) (by simp) (AllReadyH.cons (o := ⟨some 56, _, _, _, _, _⟩) rfl (fun K hK => ?_) AllReadyH.nil)
    go_simp
    refine ((HLI _).out).mono ?_
    rintro e w6 ⟨rfl, rfl⟩
    go_wp2_with fail
    refine hK.out _ _ ?_ (fun hH => ?_)
    · exact hH
    clear hK K
    try simp only [Act.put, List.setIfInBounds_toArray, List.set_cons_zero, List.set_cons_succ]
    refine wpAnyH_take (i := 7) (oi := ⟨some 57, _, _, _, _, _⟩) (v := .agg (lineArr ⟨true, false, lbase x, fun _ => 0⟩)) rfl (by kernel_rfl) (by kernel_rfl) (by kernel_rfl) (fun _ _ _ h => h) (Or.inl ⟨by kernel_rfl, ?_⟩) hH ?_
    · intro wq hq; kernel_rfl
    simp only [Act.put, List.setIfInBounds_toArray, List.set_cons_zero, List.set_cons_succ]
    refine wpAnyH_take (i := 8) (oi := ⟨some 58, _, _, _, _, _⟩) (v := ?_) rfl (by kernel_rfl) (by kernel_rfl) (by kernel_rfl) (fun _ _ _ h => h) (Or.inl ⟨by kernel_rfl, ?_⟩) hH ?_
    rotate_left 1
    · intro wq hq; have c0 := hq; first | (go_simp; done) | (go_simp; with_reducible rfl)
    simp only [Act.put, List.setIfInBounds_toArray, List.set_cons_zero, List.set_cons_succ]
    refine wpAnyH_ready (rs := [9]) (by kernel_rfl) (by simp) (AllReadyH.cons (o := ⟨none, _, _, _, _, _⟩) rfl (fun K hK => ?_) AllReadyH.nil)
    have et := HTH.out
    go_simp
    refine hK.out _ _ ?_ (fun hH => ?_)
    · rw [World.cell?_setCells_out _ _ _ _ _ (fun e => absurd e HNE.out.2)]; exact hH
    clear et
    clear hK K
    try simp only [Act.put, List.setIfInBounds_toArray, List.set_cons_zero, List.set_cons_succ]
    refine wpAnyH_done (by kernel_rfl) ?_ _

    have HR6 : Hid ((w5.drew.setCells (wb s) (i * 67) (lineArr ⟨true, false, lbase x, fun _ => 0⟩).toList).rowIs (wb s) 76 (m * 67) (wayCell (upL (L s) i ⟨true, false, lbase x, fun _ => 0⟩))) := way_store ((H5.out.ways s HS.out).drew) HIL.out _
    have HT6 : Hid (Turned (· = wb s) w5 (w5.drew.setCells (wb s) (i * 67) (lineArr ⟨true, false, lbase x, fun _ => 0⟩).toList)) := turned_setCells _ _ _ _ _ (Turned.refl _ w5).drew
    clear HTH c0 C0 hH
    generalize w5.drew.setCells (wb s) (i * 67) (lineArr ⟨true, false, lbase x, fun _ => 0⟩).toList = w6 at *
    have H6 := Lib.hid (H5.out.way HT6.out HS.out _ HNZ.out HR6.out).1
    have HU6 := Lib.hid (H5.out.way HT6.out HS.out _ HNZ.out HR6.out).2
    have c0 : w6.cell? ⟨sb, s * 2, none⟩ = some (.slice (some ⟨wb s, 0, none⟩) m m) := by rw [H6.out.sets.cell (by have := HS.out; omega), setCellF_0]
    have HOB6 : Hid (w6.heap[ob]? = some (.cells (lineArr old) 76 (0, 0))) := HU6.out.keep HOG.out.1 HOB.out
    have HRW6 : Hid (IsRow w6 (some ⟨ab, ao, none⟩) 64 (fun q => .int .u8 (D q))) := by
      refine isRow_turned (isRow_turned HROW.out (Turned.of_below HB5.out (fun _ => False)) (fun _ _ _ _ e => e)) HU6.out (fun b o s e hb => ?_)
      cases e
      exact HAP.out hb
    have HK64 : Hid (64 = Nat.min 64 64) := rfl
    go_wp2_with ((with_reducible refine wpList_copy_row rfl (.tmp 66) (.tmp 67) 34 34 rfl 5 Try.underlying34 (by kernel_rfl) (wb s) (i * 67 + 3) 64 64 (some ⟨ab, ao, none⟩) 64 cap rfl rfl 76 (m * 67) (wayCell (upL (L s) i ⟨true, false, lbase x, fun _ => 0⟩)) HR6 64 HK64.out (fun q => .int .u8 (D q)) HRW6 (by have := HMI.out; omega) (fun _ _ => rfl) (by omega) ?_); intro w7 hr7 ht7)
    have HR7 := Lib.hid (way_fill HMI.out hr7.out)
    have H7 : Hid (CacheIs w7 b sb wb n m (upS2 L s i (newL x D)) st) := by
      have h := (H6.out.way (i := i) (l := newL x D) ht7.out HS.out HNL.out (by
        have e : upL (upS2 L s i (newL x fun _ => 0) s) i (newL x D) = upL (L s) i (newL x D) := by
          funext j; unfold upS2 upL; rw [if_pos rfl]; by_cases e : j = i <;> simp [e]
        rw [e]; exact HR7.out)).1
      rw [upS2_2] at h
      exact h
    have HU7 : Hid (Turned (CacheOwn sb wb n) w5 w7) := HU6.out.trans (ht7.out.mono (by rintro g rfl; exact .inr ⟨s, HS.out, rfl⟩)) (fun _ => .inl)
    clear hr7 ht7 HR6 HT6 HRW6 H6 HOB6 c0
    refine (set_touch H7.out.sets HS.out H7.out.hm (H7.out.hst s HS.out) HIL.out).mono ?_
    rintro e w8 ⟨rfl, hr8, ht8⟩
    obtain ⟨k1, k2⟩ := H7.out.touch (Below.refl _ _) hr8 ht8 HS.out HIL.out
    have H8 := Lib.hid k1
    have HU8 : Hid (Turned (CacheOwn sb wb n) w5 w8) := HU7.out.trans k2 (fun _ => .inl)
    have HW8 : Hid (Turned (CacheOwn sb wb n) w w8) := (Turned.of_below HB5.out (CacheOwn sb wb n)).trans HU8.out (fun _ => .inl)
    have HOB8 : Hid (w8.heap[ob]? = some (.cells (lineArr old) 76 (0, 0))) := HU8.out.keep HOG.out.1 HOB.out
    clear hr8 ht8 k1 k2 H7 HU7 HU6
    have a0 : w8.cell? ⟨ob, 0, none⟩ = some (.bool old.v) := (blk_cell HOB8.out 0).trans (la0 old)
    have a1 : w8.cell? ⟨ob, 1, none⟩ = some (.bool old.d) := (blk_cell HOB8.out 1).trans (la1 old)
    have HFR : Hid (FillR w w8 old = FillR w w8 old) := rfl
    cases hv : old.v with
    | false =>
      rw [hv] at a0
      have HVV := Lib.hid hv
      clear hv
      go_wp2_with fail
      exact bodyPost_ret (v := .tuple #[.int .u64 0, .slice none 0 0, .bool false, .int .i64 0]) (by simp [results, Try.results13, go_sem]) rfl ⟨H8.out, HW8.out, by rw [HOLD.out]; exact .inl ⟨by rw [HVV.out]; rfl, rfl⟩⟩
    | true =>
      rw [hv] at a0
      have HVV := Lib.hid hv
      clear hv
      cases hd : old.d with
      | false =>
        rw [hd] at a1
        have HDD := Lib.hid hd
        clear hd
        go_wp2_with fail
        exact bodyPost_ret (v := .tuple #[.int .u64 0, .slice none 0 0, .bool false, .int .i64 0]) (by simp [results, Try.results13, go_sem]) rfl ⟨H8.out, HW8.out, by rw [HOLD.out]; exact .inl ⟨by rw [HVV.out, HDD.out]; rfl, rfl⟩⟩
      | true =>
        rw [hd] at a1
        have HDD := Lib.hid hd
        clear hd
        have a2 : w8.cell? ⟨ob, 2, none⟩ = some (.int .u64 old.tag) := (blk_cell HOB8.out 2).trans (la2 old)
        have HS64 : Hid (∀ j u, ((List.range 64).map fun q => Value.int .u8 (old.data q))[j]? = some u → w8.drew.cell? ((⟨ob, 3, none⟩ : Addr).add j) = some u) := fun j u hj => by
          have hj64 : j < 64 := by have := (List.getElem?_eq_some_iff.1 hj).1; simpa using this
          simp [hj64] at hj
          rw [addr_add, show w8.drew.cell? ⟨ob, 3 + j, none⟩ = w8.cell? ⟨ob, 3 + j, none⟩ from rfl, (blk_cell HOB8.out _), lineArr_get _ _ (by omega), ← hj]
          unfold lineCell
          rw [if_neg (by omega), if_neg (by omega), if_neg (by omega), show 3 + j - 3 = j by omega]
        obtain ⟨i0, hi0, hz0⟩ := Option.map_eq_some_iff.1 A_info5
        simp only [Prod.mk.injEq] at hz0
        have HI0 := Lib.hid hi0; have HZ0 := Lib.hid hz0
        clear hi0 hz0
        go_wp2_with fail
        go_region_law ((refine step_append_lies _ (by rfl) _ _ _ (by rfl) w8.heap.size 5 i0 (.int .u8 0) 1 1 Try.underlying34 HI0.out HZ0.out.1 HZ0.out.2.1 HZ0.out.2.2 rfl (by omega) (.slice none 0 0) 0 [] (by rfl) (World.ownsRow_nil _ _ _ _) ⟨ob, 3, none⟩ 64 64 ((List.range 64).map fun q => Value.int .u8 (old.data q)) (by rfl) (by simp) HS64.out (fun u hu => by simp only [List.mem_map] at hu; obtain ⟨q, _, rfl⟩ := hu; rfl) (by omega) (by unfold maxLen; omega) (by omega) (Nat.le_refl _) w8.heap.size rfl ?_; intro g cp w9 hown hgrow hat hlt; have a3 : w9.cell? ⟨ob, 2, none⟩ = some (.int .u64 old.tag) := (blk_cell ((hgrow.block ob (blk_lt HOB8.out) (fun e => nomatch e)).trans HOB8.out) 2).trans (la2 old)))
        all_goals
          have hbg : Below w8.heap.size w8 w9 := (Below.refl _ _).drew.trans ((below_of_grown_nil hgrow))
          obtain ⟨_, hh | ⟨g', cap', cur, hv9, hg9, hh9, _, _, hc9, ht9⟩⟩ := hown
          · cases hh.1
          · cases hv9
            have hz9 : (cur.toList.take (64 * 1)) = (List.range 64).map fun q => Value.int .u8 (old.data q) := by rw [ht9]; simp
            have hO : Own64 w9 w.heap.size g old.data := ⟨Nat.le_trans HW8.out.size hg9, cur, hh9, fun q hq => by
              have h3 : (cur.toList.take (64 * 1))[q]? = ((List.range 64).map fun q => Value.int .u8 (old.data q))[q]? := by rw [hz9]
              rw [List.getElem?_take_of_lt (by omega), Array.getElem?_toList] at h3
              rw [h3]; simp [hq]⟩
            have HBG := Lib.hid hbg; have HO9 := Lib.hid hO
            clear hbg hO hz9 ht9 hh9 hgrow hat hlt
            go_wp2_with fail
            exact bodyPost_ret (v := .tuple #[.int .u64 old.tag, .slice (some ⟨g, 0, none⟩) (0 + 64) cp, .bool true, .int .i64 0]) (by simp [results, Try.results13, go_sem]) rfl ⟨H8.out.below HBG.out, HW8.out.trans (Turned.of_below HBG.out (CacheOwn sb wb n)) (fun _ => .inl), by rw [HOLD.out]; exact .inr ⟨by rw [HVV.out, HDD.out]; rfl, g, cp, rfl, HO9.out⟩⟩
end Go.Proofs.Ytlcedcjcecahoaa
