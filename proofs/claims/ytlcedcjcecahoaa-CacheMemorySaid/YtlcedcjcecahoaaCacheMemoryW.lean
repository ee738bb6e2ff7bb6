/- The law CacheMemory, walked. No condition. -/
import Derived.Test.YtlcedcjcecahoaaMemArr
import Derived.StillTailTactics
import Derived.BigRegion
import Derived.Deep.RegionWith
import Derived.Deep.RegionHeld3
import Derived.Deep.RegionLaw
import Derived.Deep.QuietTactic
import Derived.BigQuiet
import Derived.Deep.LoopGhost
import Derived.Deep.DeepCutAuto
import Derived.Deep.DeepFit
import Derived.Deep.DeepMust
import Derived.Handy
set_option linter.unusedVariables false
set_option linter.unusedSimpArgs false
namespace Go.Proofs.Ytlcedcjcecahoaa
open Go.RowKit Go.Shelf
set_option maxRecDepth 100000
attribute [local go_sem] Oper.semAt_some
attribute [local go_sem ↓] ld_mem sl_2k
attribute [local go_sem] rl_mem run_slice2k run_slice2k_to
def noPanic (Q : Exit → Act → World → Prop) : Exit → Act → World → Prop
  | .panic _, _, _ => False
  | e, a, w => Q e a w
theorem noPanic_le (Q : Exit → Act → World → Prop) : ∀ e a w, noPanic Q e a w → Q e a w := fun e a w h => by
  cases e <;> first | exact h | exact h.elim
theorem noPanic_in {K : Act → World → Prop} {Q : Exit → Act → World → Prop} {a : Act} {w : World} (h : K a w) : noPanic (Exit.then K Q) .normal a w := h
/-- what stays apart -/
structure MemApart (b sb : Nat) (wb : Nat → Nat) (n rb mb tb : Nat) : Prop where
  om : ¬ CacheOwn sb wb n mb
  ot : ¬ CacheOwn sb wb n tb
  or : ¬ CacheOwn sb wb n rb
  nm : mb ≠ b
  nt : tb ≠ b
  mt : mb ≠ tb
  rm : rb ≠ mb
  rt : rb ≠ tb
  nr : rb ≠ b
/-- between two rounds -/
def MemS (w : World) (b sb : Nat) (wb : Nat → Nat) (n m rb mb tb : Nat) (wr : World) : Prop :=
  ∃ L st M T, CacheIs wr b sb wb n m L st ∧ MemInv n m L M T ∧ MemAt wr mb M ∧ MemAt wr tb T ∧ Boxed wr rb 4 (.bool false) ∧ Below w.heap.size w wr
/-- .. and the line of A is there -/
def MemP (w : World) (b sb : Nat) (wb : Nat → Nat) (n m rb mb tb : Nat) (A : Int) (T : Nat → Int) (wr : World) : Prop :=
  ∃ L st M i, CacheIs wr b sb wb n m L st ∧ MemInv n m L M T ∧ MemAt wr mb M ∧ MemAt wr tb T ∧ Boxed wr rb 4 (.bool false) ∧ Below w.heap.size w wr ∧ i < m ∧ wayI m (L (setOf n A)) A = (i : Nat) ∧ isLine A (L (setOf n A) i) = true
theorem MemAt.block {w w' : World} {g : Nat} {M : Nat → Int} (h : MemAt w g M) (hb : w'.heap[g]? = w.heap[g]?) : MemAt w' g M := World.rowIs.of_block h hb
theorem MemAt.own {w w' : World} {g : Nat} {M : Nat → Int} {row : Option Nat} (h : MemAt w g M) (hg : w.grownBy w' row) (hr : ∀ r, row = some r → ∃ o : Obj, w.heap[r]? = some o ∧ o.isCells = false) : MemAt w' g M :=
  h.block (hg.block g (World.rowIs.lt h) fun e => by
    obtain ⟨o, ho, hc⟩ := hr g e.symm
    rw [h.heap] at ho
    cases ho
    cases hc)
theorem mem_own {β : Type} (mb tb rb : Nat) (f : β → Nat → Int) (T : Nat → Int) : Own (fun (s : β) W => MemAt W mb (f s) ∧ MemAt W tb T ∧ Boxed W rb 4 (.bool false)) := fun s X Y row hs hg hr =>
  ⟨hs.1.own hg hr, hs.2.1.own hg hr, boxed_own rb 4 (fun _ : β => .bool false) s X Y row hs.2.2 hg hr⟩
theorem keepsFrom_turned {S : Nat → Prop} {B : Nat} {w w' : World} (h : Turned S w w') (hS : ∀ g, S g → g < B) : KeepsFrom B w w' :=
  ⟨h.size, fun k o hB hk ho => (h.block k (Array.getElem?_eq_some_iff.1 hk).1 (fun e => by have := hS k e; omega)).trans hk⟩
theorem mem_isRow {w : World} {g : Nat} {M : Nat → Int} (h : MemAt w g M) {k : Nat} (hk : k < 32) : IsRow w (some ⟨g, k * 64, none⟩) 64 (fun q => .int .u8 (M (k * 64 + q))) := fun _ =>
  ⟨g, k * 64, rfl, World.rowIs.lt h, fun i hi => World.rowIs.cell h (by omega)⟩
theorem Boxed.block {w w' : World} {g : Nat} {t : TypeId} {v : Value} (h : Boxed w g t v) (hb : w'.heap[g]? = w.heap[g]?) : Boxed w' g t v := hb.trans h
set_option maxHeartbeats 16000000 in
theorem memory_walk (w : World) (sets ways seed : Int) (s0 : 0 ≤ seed) (s1 : seed < 18446744073709551616) (a : Option Addr) (len cap : Nat) (z : Nat → CacheOp) (hle : (len : Int) ≤ 9223372036854775807) (hz : CacheOps w a len z) :
    Calls Try.prog 5 #[.int .i64 sets, .int .i64 ways, .int .u64 seed, .slice a len cap] w fun e w' => e = .returned (.bool true) ∧ Below w.heap.size w w' := by
  have HS := Lib.hid (And.intro s0 s1); have HZ := Lib.hid hz; have HLE := Lib.hid hle
  have hw3 : IntKind.u64.wrap ways % 3 = 0 ∨ IntKind.u64.wrap ways % 3 = 1 ∨ IntKind.u64.wrap ways % 3 = 2 := by omega
  have hw0 : 0 ≤ IntKind.u64.wrap ways := by rw [IntKind.wrap_u64]; omega
  have hw5 : IntKind.u64.wrap sets % 5 = 0 ∨ IntKind.u64.wrap sets % 5 = 1 ∨ IntKind.u64.wrap sets % 5 = 2 ∨ IntKind.u64.wrap sets % 5 = 3 ∨ IntKind.u64.wrap sets % 5 = 4 := by omega
  have hv0 : 0 ≤ IntKind.u64.wrap sets := by rw [IntKind.wrap_u64]; omega
  clear s0 s1 hz hle
  refine (callsIn_wide (n := 3)).1 ?_
  refine callsIn_of_wp_marks Try.func5 rfl trivial ?_ rfl
  simp only [Try.ntmps5, List.size_toArray, List.length_cons, List.length_nil, Nat.reduceAdd, Nat.reduceSub, Array.replicate_succ, Array.replicate_zero, List.push_toArray, List.append_toArray, List.nil_append, List.cons_append]
  refine wpIn_wide.2 ?_
  go_upto_region 1 with fail
  have HRB : Hid (Boxed (w.alloc (.cells #[.bool false] 4)) w.heap.size 4 (.bool false)) := Boxed.new w 4 (.bool false)
  have HB0 : Hid (Below w.heap.size w (w.alloc (.cells #[.bool false] 4))) := (Below.refl _ w).alloc (Nat.le_refl _) _
  generalize w.alloc (.cells #[.bool false] 4) = w0 at *
  let HQ0 := bodyPost Try.prog Try.f5 (fun _ _ => True)
  go_cut [9, 10] (fun s9 s10 wx => LineNew w0 s9 s10 wx)
  case first =>
    obtain ⟨j5, n, t5, hj5, hn, hA5⟩ : ∃ j n : Nat, (IntKind.u64.wrap sets).tmod 5 = (j : Int) ∧ (j : Int) < 5 ∧ Sets n ∧ (#[Value.int .i64 1, .int .i64 2, .int .i64 4, .int .i64 8, .int .i64 16] : Array Value)[j]? = some (.int .i64 (n : Nat)) := by
      rw [Int.tmod_eq_emod_of_nonneg hv0]
      rcases hw5 with h | h | h | h | h
      · exact ⟨0, 1, h, by omega, by simp [Sets], rfl⟩
      · exact ⟨1, 2, h, by omega, by simp [Sets], rfl⟩
      · exact ⟨2, 4, h, by omega, by simp [Sets], rfl⟩
      · exact ⟨3, 8, h, by omega, by simp [Sets], rfl⟩
      · exact ⟨4, 16, h, by omega, by simp [Sets], rfl⟩
    obtain ⟨j3, m, t3, hj3, hm, hA3⟩ : ∃ j n : Nat, (IntKind.u64.wrap ways).tmod 3 = (j : Int) ∧ (j : Int) < 3 ∧ Ways n ∧ (#[Value.int .i64 2, .int .i64 4, .int .i64 8] : Array Value)[j]? = some (.int .i64 (n : Nat)) := by
      rw [Int.tmod_eq_emod_of_nonneg hw0]
      rcases hw3 with h | h | h
      · exact ⟨0, 2, h, by omega, by simp [Ways], rfl⟩
      · exact ⟨1, 4, h, by omega, by simp [Ways], rfl⟩
      · exact ⟨2, 8, h, by omega, by simp [Ways], rfl⟩
    have HNEW := fun (W : World) => Lib.hid (cache_new hn hm seed HS.out.1 HS.out.2 W)
    have HM := Lib.hid hm
    have wj5 : IntKind.i64.wrap (j5 : Int) = j5 := by rw [IntKind.wrap_i64]; omega
    have wj3 : IntKind.i64.wrap (j3 : Int) = j3 := by rw [IntKind.wrap_i64]; omega
    clear hw3 hw5 hw0 hv0 hn hm
    go_wp2_with fail
    refine wp_mono ?_ (noPanic_le _)
    refine wp_region_held_drew (S := fun _ => True) (by kernel_rfl) trivial (fun hH => ?_)
    refine wpAnyH_take (i := 1) (oi := ⟨some 27, _, _, _, _, _⟩) (v := ?_) rfl (by kernel_rfl) (by kernel_rfl) (by kernel_rfl) (fun _ _ _ h => h) (Or.inl ⟨by kernel_rfl, ?_⟩) hH ?_
    rotate_left 1
    · intro wq hq;  first | (go_simp; done) | (go_simp; with_reducible rfl)
    simp only [Act.put, List.setIfInBounds_toArray, List.set_cons_zero, List.set_cons_succ]
    refine wpAnyH_take (i := 2) (oi := ⟨some 28, _, _, _, _, _⟩) (v := ?_) rfl (by kernel_rfl) (by kernel_rfl) (by kernel_rfl) (fun _ _ _ h => h) (Or.inl ⟨by kernel_rfl, ?_⟩) hH ?_
    rotate_left 1
    · intro wq hq;  first | (go_simp; done) | (go_simp; with_reducible rfl)
    simp only [Act.put, List.setIfInBounds_toArray, List.set_cons_zero, List.set_cons_succ]
    refine wpAnyH_take (i := 3) (oi := ⟨some 29, _, _, _, _, _⟩) (v := ?_) rfl (by kernel_rfl) (by kernel_rfl) (by kernel_rfl) (fun _ _ _ h => h) (Or.inl ⟨by kernel_rfl, ?_⟩) hH ?_
    rotate_left 1
    · intro wq hq;  first | (go_simp; done) | (go_simp; with_reducible rfl)
    simp only [Act.put, List.setIfInBounds_toArray, List.set_cons_zero, List.set_cons_succ]
    refine wpAnyH_take (i := 4) (oi := ⟨some 30, _, _, _, _, _⟩) (v := ?_) rfl (by kernel_rfl) (by kernel_rfl) (by kernel_rfl) (fun _ _ _ h => h) (Or.inl ⟨by kernel_rfl, ?_⟩) hH ?_
    rotate_left 1
    · intro wq hq;  first | (go_simp; done) | (go_simp; with_reducible rfl)
    simp only [Act.put, List.setIfInBounds_toArray, List.set_cons_zero, List.set_cons_succ]
    refine wpAnyH_take (i := 8) (oi := ⟨some 34, _, _, _, _, _⟩) (v := ?_) rfl (by kernel_rfl) (by kernel_rfl) (by kernel_rfl) (fun _ _ _ h => h) (Or.inl ⟨by kernel_rfl, ?_⟩) hH ?_
    rotate_left 1
    · intro wq hq;  first | (go_simp; done) | (go_simp; with_reducible rfl)
    simp only [Act.put, List.setIfInBounds_toArray, List.set_cons_zero, List.set_cons_succ]
    refine wpAnyH_take (i := 9) (oi := ⟨some 35, _, _, _, _, _⟩) (v := ?_) rfl (by kernel_rfl) (by kernel_rfl) (by kernel_rfl) (fun _ _ _ h => h) (Or.inl ⟨by kernel_rfl, ?_⟩) hH ?_
    rotate_left 1
    · intro wq hq;  first | (go_simp; done) | (go_simp; with_reducible rfl)
    simp only [Act.put, List.setIfInBounds_toArray, List.set_cons_zero, List.set_cons_succ]
    refine wpAnyH_take (i := 10) (oi := ⟨some 36, _, _, _, _, _⟩) (v := ?_) rfl (by kernel_rfl) (by kernel_rfl) (by kernel_rfl) (fun _ _ _ h => h) (Or.inl ⟨by kernel_rfl, ?_⟩) hH ?_
    rotate_left 1
    · intro wq hq;  first | (go_simp; done) | (go_simp; with_reducible rfl)
    simp only [Act.put, List.setIfInBounds_toArray, List.set_cons_zero, List.set_cons_succ]
    refine wpAnyH_take (i := 11) (oi := ⟨some 37, _, _, _, _, _⟩) (v := ?_) rfl (by kernel_rfl) (by kernel_rfl) (by kernel_rfl) (fun _ _ _ h => h) (Or.inl ⟨by kernel_rfl, ?_⟩) hH ?_
    rotate_left 1
    · intro wq hq;  first | (go_simp; done) | (go_simp; with_reducible rfl)
    simp only [Act.put, List.setIfInBounds_toArray, List.set_cons_zero, List.set_cons_succ]
    refine wpAnyH_take (i := 14) (oi := ⟨some 40, _, _, _, _, _⟩) (v := ?_) rfl (by kernel_rfl) (by kernel_rfl) (by kernel_rfl) (fun _ _ _ h => h) (Or.inl ⟨by kernel_rfl, ?_⟩) hH ?_
    rotate_left 1
    · intro wq hq;  first | (go_simp; done) | (go_simp; with_reducible rfl)
    simp only [Act.put, List.setIfInBounds_toArray, List.set_cons_zero, List.set_cons_succ]
    refine wpAnyH_ready (rs := [0, 7]) (by kernel_rfl) (by simp) (AllReadyH.cons (o := ⟨some 26, _, _, _, _, _⟩) rfl (fun K hK => ?_) (AllReadyH.cons (o := ⟨some 33, _, _, _, _, _⟩) rfl (fun K hK => ?_) AllReadyH.nil))
    · go_simp
      refine hK.out _ _ trivial (fun hH => ?_)
      clear hK K hH
      try simp only [Act.put, List.setIfInBounds_toArray, List.set_cons_zero, List.set_cons_succ]
      have hH : (w0.drew.alloc (.cells #[.int .i64 1, .int .i64 2, .int .i64 4, .int .i64 8, .int .i64 16] 3)).cell? ⟨w0.heap.size, j5, none⟩ = some (.int .i64 (n : Nat)) := cell_new_at w0.drew _ _ _ _ hA5
      refine wpAnyH_turn (S' := fun wq => wq.cell? ⟨w0.heap.size, j5, none⟩ = some (.int .i64 (n : Nat))) (fun _ _ => trivial) _ _ _ _ ?_
      refine wpAnyH_take (i := 5) (oi := ⟨some 31, _, _, _, _, _⟩) (v := ?_) rfl (by kernel_rfl) (by kernel_rfl) (by kernel_rfl) (fun _ _ _ h => h) (Or.inl ⟨by kernel_rfl, ?_⟩) hH ?_
      rotate_left 1
      · intro wq hq; have c0 := hq; first | (go_simp; done) | (go_simp; with_reducible rfl)
      simp only [Act.put, List.setIfInBounds_toArray, List.set_cons_zero, List.set_cons_succ]
      refine wpAnyH_take (i := 6) (oi := ⟨some 32, _, _, _, _, _⟩) (v := ?_) rfl (by kernel_rfl) (by kernel_rfl) (by kernel_rfl) (fun _ _ _ h => h) (Or.inl ⟨by kernel_rfl, ?_⟩) hH ?_
      rotate_left 1
      · intro wq hq; have c0 := hq; first | (go_simp; done) | (go_simp; with_reducible rfl)
      simp only [Act.put, List.setIfInBounds_toArray, List.set_cons_zero, List.set_cons_succ]
      refine wpAnyH_ready (rs := [7]) (by kernel_rfl) (by simp) (AllReadyH.cons (o := ⟨some 33, _, _, _, _, _⟩) rfl (fun K hK => ?_) AllReadyH.nil)
      go_simp
      refine hK.out _ _ ?_ (fun hH => ?_)
      · exact (World.cell?_alloc_lt _ _ _ (World.block_lt_of_cell? _ _ hH)).trans hH
      clear hK K
      try simp only [Act.put, List.setIfInBounds_toArray, List.set_cons_zero, List.set_cons_succ]
      have hH2 : ((w0.alloc (.cells #[.int .i64 1, .int .i64 2, .int .i64 4, .int .i64 8, .int .i64 16] 3)).alloc (.cells #[.int .i64 2, .int .i64 4, .int .i64 8] 3)).drew.cell? ⟨w0.heap.size + 1, j3, none⟩ = some (.int .i64 (m : Nat)) := cell_new_too (w0.drew.alloc (.cells #[.int .i64 1, .int .i64 2, .int .i64 4, .int .i64 8, .int .i64 16] 3)) _ _ _ _ _ (by simp) hA3
      refine wpAnyH_turn (S' := fun wq => wq.cell? ⟨w0.heap.size, j5, none⟩ = some (.int .i64 (n : Nat)) ∧ wq.cell? ⟨w0.heap.size + 1, j3, none⟩ = some (.int .i64 (m : Nat))) (fun _ h => h.1) _ _ _ _ ?_
      refine wpAnyH_take (i := 12) (oi := ⟨some 38, _, _, _, _, _⟩) (v := ?_) rfl (by kernel_rfl) (by kernel_rfl) (by kernel_rfl) (fun _ _ _ h => h) (Or.inl ⟨by kernel_rfl, ?_⟩) ⟨hH, hH2⟩ ?_
      rotate_left 1
      · intro wq hq; have c0 := hq.2; first | (go_simp; done) | (go_simp; with_reducible rfl)
      simp only [Act.put, List.setIfInBounds_toArray, List.set_cons_zero, List.set_cons_succ]
      refine wpAnyH_take (i := 13) (oi := ⟨some 39, _, _, _, _, _⟩) (v := ?_) rfl (by kernel_rfl) (by kernel_rfl) (by kernel_rfl) (fun _ _ _ h => h) (Or.inl ⟨by kernel_rfl, ?_⟩) ⟨hH, hH2⟩ ?_
      rotate_left 1
      · intro wq hq; have c0 := hq.2; first | (go_simp; done) | (go_simp; with_reducible rfl)
      simp only [Act.put, List.setIfInBounds_toArray, List.set_cons_zero, List.set_cons_succ]
      have HW2 : Hid (Below w0.heap.size w0 ((w0.alloc (.cells #[.int .i64 1, .int .i64 2, .int .i64 4, .int .i64 8, .int .i64 16] 3)).alloc (.cells #[.int .i64 2, .int .i64 4, .int .i64 8] 3)).drew) := (((Below.refl w0.heap.size w0).alloc (Nat.le_refl _) _).alloc (by simp) _).drew
      have HH := Lib.hid (And.intro hH hH2)
      clear hH hH2
      generalize ((w0.alloc (.cells #[.int .i64 1, .int .i64 2, .int .i64 4, .int .i64 8, .int .i64 16] 3)).alloc (.cells #[.int .i64 2, .int .i64 4, .int .i64 8] 3)).drew = wp at *
      refine wpAnyH_ready (rs := [15]) (by kernel_rfl) (by simp) (AllReadyH.cons (o := ⟨some 41, _, _, _, _, _⟩) rfl (fun K hK => ?_) AllReadyH.nil)
      go_simp
      refine (HNEW wp).out.mono ?_
      rintro e wx hz
      obtain ⟨b, rfl, hln, hbx⟩ := line_new HW2.out HM.out hz
      have HLN := Lib.hid hln
      have HBX := Lib.hid hbx
      clear hz hln hbx
      go_wp2_with fail
      refine hK.out _ _ ⟨(HBX.out.cell (World.block_lt_of_cell? _ _ HH.out.1)).trans HH.out.1, (HBX.out.cell (World.block_lt_of_cell? _ _ HH.out.2)).trans HH.out.2⟩ (fun hH => ?_)
      clear hK K
      try simp only [Act.put, List.setIfInBounds_toArray, List.set_cons_zero, List.set_cons_succ]
      refine wpAnyH_take (i := 16) (oi := ⟨some 25, _, _, _, _, _⟩) (v := ?_) rfl (by kernel_rfl) (by kernel_rfl) (by kernel_rfl) (fun _ _ _ h => h) (Or.inl ⟨by kernel_rfl, ?_⟩) hH ?_
      rotate_left 1
      · intro wq hq;  first | (go_simp; done) | (go_simp; with_reducible rfl)
      simp only [Act.put, List.setIfInBounds_toArray, List.set_cons_zero, List.set_cons_succ]
      refine wpAnyH_take (i := 17) (oi := ⟨some 42, _, _, _, _, _⟩) (v := ?_) rfl (by kernel_rfl) (by kernel_rfl) (by kernel_rfl) (fun _ _ _ h => h) (Or.inl ⟨by kernel_rfl, ?_⟩) hH ?_
      rotate_left 1
      · intro wq hq;  first | (go_simp; done) | (go_simp; with_reducible rfl)
      simp only [Act.put, List.setIfInBounds_toArray, List.set_cons_zero, List.set_cons_succ]
      refine wpAnyH_take (i := 18) (oi := ⟨some 43, _, _, _, _, _⟩) (v := ?_) rfl (by kernel_rfl) (by kernel_rfl) (by kernel_rfl) (fun _ _ _ h => h) (Or.inl ⟨by kernel_rfl, ?_⟩) hH ?_
      rotate_left 1
      · intro wq hq;  first | (go_simp; done) | (go_simp; with_reducible rfl)
      simp only [Act.put, List.setIfInBounds_toArray, List.set_cons_zero, List.set_cons_succ]
      refine wpAnyH_take (i := 19) (oi := ⟨some 9, _, _, _, _, _⟩) (v := ?_) rfl (by kernel_rfl) (by kernel_rfl) (by kernel_rfl) (fun _ _ _ h => h) (Or.inl ⟨by kernel_rfl, ?_⟩) hH ?_
      rotate_left 1
      · intro wq hq;  first | (go_simp; done) | (go_simp; with_reducible rfl)
      simp only [Act.put, List.setIfInBounds_toArray, List.set_cons_zero, List.set_cons_succ]
      refine wpAnyH_take (i := 20) (oi := ⟨some 10, _, _, _, _, _⟩) (v := ?_) rfl (by kernel_rfl) (by kernel_rfl) (by kernel_rfl) (fun _ _ _ h => h) (Or.inl ⟨by kernel_rfl, ?_⟩) hH ?_
      rotate_left 1
      · intro wq hq;  first | (go_simp; done) | (go_simp; with_reducible rfl)
      simp only [Act.put, List.setIfInBounds_toArray, List.set_cons_zero, List.set_cons_succ]
      refine wpAnyH_done (by kernel_rfl) ?_ _
      with_reducible refine noPanic_in ?_
      go_wp2_with fail
      go_meet
      exact HLN.out
    · go_simp
      refine hK.out _ _ trivial (fun hH => ?_)
      clear hK K hH
      try simp only [Act.put, List.setIfInBounds_toArray, List.set_cons_zero, List.set_cons_succ]
      have hH : (w0.drew.alloc (.cells #[.int .i64 2, .int .i64 4, .int .i64 8] 3)).cell? ⟨w0.heap.size, j3, none⟩ = some (.int .i64 (m : Nat)) := cell_new_at w0.drew _ _ _ _ hA3
      refine wpAnyH_turn (S' := fun wq => wq.cell? ⟨w0.heap.size, j3, none⟩ = some (.int .i64 (m : Nat))) (fun _ _ => trivial) _ _ _ _ ?_
      refine wpAnyH_take (i := 12) (oi := ⟨some 38, _, _, _, _, _⟩) (v := ?_) rfl (by kernel_rfl) (by kernel_rfl) (by kernel_rfl) (fun _ _ _ h => h) (Or.inl ⟨by kernel_rfl, ?_⟩) hH ?_
      rotate_left 1
      · intro wq hq; have c0 := hq; first | (go_simp; done) | (go_simp; with_reducible rfl)
      simp only [Act.put, List.setIfInBounds_toArray, List.set_cons_zero, List.set_cons_succ]
      refine wpAnyH_take (i := 13) (oi := ⟨some 39, _, _, _, _, _⟩) (v := ?_) rfl (by kernel_rfl) (by kernel_rfl) (by kernel_rfl) (fun _ _ _ h => h) (Or.inl ⟨by kernel_rfl, ?_⟩) hH ?_
      rotate_left 1
      · intro wq hq; have c0 := hq; first | (go_simp; done) | (go_simp; with_reducible rfl)
      simp only [Act.put, List.setIfInBounds_toArray, List.set_cons_zero, List.set_cons_succ]
      refine wpAnyH_ready (rs := [0]) (by kernel_rfl) (by simp) (AllReadyH.cons (o := ⟨some 26, _, _, _, _, _⟩) rfl (fun K hK => ?_) AllReadyH.nil)
      go_simp
      refine hK.out _ _ ?_ (fun hH => ?_)
      · exact (World.cell?_alloc_lt _ _ _ (World.block_lt_of_cell? _ _ hH)).trans hH
      clear hK K
      try simp only [Act.put, List.setIfInBounds_toArray, List.set_cons_zero, List.set_cons_succ]
      have hH2 : ((w0.alloc (.cells #[.int .i64 2, .int .i64 4, .int .i64 8] 3)).alloc (.cells #[.int .i64 1, .int .i64 2, .int .i64 4, .int .i64 8, .int .i64 16] 3)).drew.cell? ⟨w0.heap.size + 1, j5, none⟩ = some (.int .i64 (n : Nat)) := cell_new_too (w0.drew.alloc (.cells #[.int .i64 2, .int .i64 4, .int .i64 8] 3)) _ _ _ _ _ (by simp) hA5
      refine wpAnyH_turn (S' := fun wq => wq.cell? ⟨w0.heap.size, j3, none⟩ = some (.int .i64 (m : Nat)) ∧ wq.cell? ⟨w0.heap.size + 1, j5, none⟩ = some (.int .i64 (n : Nat))) (fun _ h => h.1) _ _ _ _ ?_
      refine wpAnyH_take (i := 5) (oi := ⟨some 31, _, _, _, _, _⟩) (v := ?_) rfl (by kernel_rfl) (by kernel_rfl) (by kernel_rfl) (fun _ _ _ h => h) (Or.inl ⟨by kernel_rfl, ?_⟩) ⟨hH, hH2⟩ ?_
      rotate_left 1
      · intro wq hq; have c0 := hq.2; first | (go_simp; done) | (go_simp; with_reducible rfl)
      simp only [Act.put, List.setIfInBounds_toArray, List.set_cons_zero, List.set_cons_succ]
      refine wpAnyH_take (i := 6) (oi := ⟨some 32, _, _, _, _, _⟩) (v := ?_) rfl (by kernel_rfl) (by kernel_rfl) (by kernel_rfl) (fun _ _ _ h => h) (Or.inl ⟨by kernel_rfl, ?_⟩) ⟨hH, hH2⟩ ?_
      rotate_left 1
      · intro wq hq; have c0 := hq.2; first | (go_simp; done) | (go_simp; with_reducible rfl)
      simp only [Act.put, List.setIfInBounds_toArray, List.set_cons_zero, List.set_cons_succ]
      have HW2 : Hid (Below w0.heap.size w0 ((w0.alloc (.cells #[.int .i64 2, .int .i64 4, .int .i64 8] 3)).alloc (.cells #[.int .i64 1, .int .i64 2, .int .i64 4, .int .i64 8, .int .i64 16] 3)).drew) := (((Below.refl w0.heap.size w0).alloc (Nat.le_refl _) _).alloc (by simp) _).drew
      have HH := Lib.hid (And.intro hH hH2)
      clear hH hH2
      generalize ((w0.alloc (.cells #[.int .i64 2, .int .i64 4, .int .i64 8] 3)).alloc (.cells #[.int .i64 1, .int .i64 2, .int .i64 4, .int .i64 8, .int .i64 16] 3)).drew = wp at *
      refine wpAnyH_ready (rs := [15]) (by kernel_rfl) (by simp) (AllReadyH.cons (o := ⟨some 41, _, _, _, _, _⟩) rfl (fun K hK => ?_) AllReadyH.nil)
      go_simp
      refine (HNEW wp).out.mono ?_
      rintro e wx hz
      obtain ⟨b, rfl, hln, hbx⟩ := line_new HW2.out HM.out hz
      have HLN := Lib.hid hln
      have HBX := Lib.hid hbx
      clear hz hln hbx
      go_wp2_with fail
      refine hK.out _ _ ⟨(HBX.out.cell (World.block_lt_of_cell? _ _ HH.out.1)).trans HH.out.1, (HBX.out.cell (World.block_lt_of_cell? _ _ HH.out.2)).trans HH.out.2⟩ (fun hH => ?_)
      clear hK K
      try simp only [Act.put, List.setIfInBounds_toArray, List.set_cons_zero, List.set_cons_succ]
      refine wpAnyH_take (i := 16) (oi := ⟨some 25, _, _, _, _, _⟩) (v := ?_) rfl (by kernel_rfl) (by kernel_rfl) (by kernel_rfl) (fun _ _ _ h => h) (Or.inl ⟨by kernel_rfl, ?_⟩) hH ?_
      rotate_left 1
      · intro wq hq;  first | (go_simp; done) | (go_simp; with_reducible rfl)
      simp only [Act.put, List.setIfInBounds_toArray, List.set_cons_zero, List.set_cons_succ]
      refine wpAnyH_take (i := 17) (oi := ⟨some 42, _, _, _, _, _⟩) (v := ?_) rfl (by kernel_rfl) (by kernel_rfl) (by kernel_rfl) (fun _ _ _ h => h) (Or.inl ⟨by kernel_rfl, ?_⟩) hH ?_
      rotate_left 1
      · intro wq hq;  first | (go_simp; done) | (go_simp; with_reducible rfl)
      simp only [Act.put, List.setIfInBounds_toArray, List.set_cons_zero, List.set_cons_succ]
      refine wpAnyH_take (i := 18) (oi := ⟨some 43, _, _, _, _, _⟩) (v := ?_) rfl (by kernel_rfl) (by kernel_rfl) (by kernel_rfl) (fun _ _ _ h => h) (Or.inl ⟨by kernel_rfl, ?_⟩) hH ?_
      rotate_left 1
      · intro wq hq;  first | (go_simp; done) | (go_simp; with_reducible rfl)
      simp only [Act.put, List.setIfInBounds_toArray, List.set_cons_zero, List.set_cons_succ]
      refine wpAnyH_take (i := 19) (oi := ⟨some 9, _, _, _, _, _⟩) (v := ?_) rfl (by kernel_rfl) (by kernel_rfl) (by kernel_rfl) (fun _ _ _ h => h) (Or.inl ⟨by kernel_rfl, ?_⟩) hH ?_
      rotate_left 1
      · intro wq hq;  first | (go_simp; done) | (go_simp; with_reducible rfl)
      simp only [Act.put, List.setIfInBounds_toArray, List.set_cons_zero, List.set_cons_succ]
      refine wpAnyH_take (i := 20) (oi := ⟨some 10, _, _, _, _, _⟩) (v := ?_) rfl (by kernel_rfl) (by kernel_rfl) (by kernel_rfl) (fun _ _ _ h => h) (Or.inl ⟨by kernel_rfl, ?_⟩) hH ?_
      rotate_left 1
      · intro wq hq;  first | (go_simp; done) | (go_simp; with_reducible rfl)
      simp only [Act.put, List.setIfInBounds_toArray, List.set_cons_zero, List.set_cons_succ]
      refine wpAnyH_done (by kernel_rfl) ?_ _
      with_reducible refine noPanic_in ?_
      go_wp2_with fail
      go_meet
      exact HLN.out
  case rest =>
    obtain ⟨n, m, b, sb, wb, st, hm, rfl, rfl, hc, hg, hbe⟩ := hcut
    have HRB1 : Hid (Boxed wc w.heap.size 4 (.bool false)) := Boxed.block HRB.out (hbe.block _ (Boxed.lt HRB.out))
    have hrbb : w.heap.size ≠ b := fun e => by
      have h1 := HRB1.out
      have h2 := hc.at_
      rw [← e] at h2
      have := h1.symm.trans h2
      simp at this
    have hro : ¬ CacheOwn sb wb n w.heap.size := fun e => by have := hg _ e; have := (Boxed.lt HRB.out); omega
    have HG : Hid (∀ g, CacheOwn sb wb n g → w.heap.size ≤ g) := fun g hgg => Nat.le_trans (Nat.le_of_lt (Boxed.lt HRB.out)) (hg g hgg)
    have HB1 : Hid (Below w.heap.size w wc) := HB0.out.trans (hbe.mono (Nat.le_of_lt (Boxed.lt HRB.out)))
    generalize wc = w1 at *
    have HM := Lib.hid hm; have HC := Lib.hid hc; have HRBB := Lib.hid hrbb; have HRO := Lib.hid hro
    clear hm hc hg hbe hw3 hw5 hw0 hv0 hrbb hro HRB HB0
    go_wp2_with fail
    refine (cache_awake w1).mono ?_
    rintro e w2 ⟨rfl, hb2⟩
    have HC2 := Lib.hid (HC.out.below hb2); have HB2 := Lib.hid (HB1.out.trans (hb2.mono HB1.out.size)); have HRB2 : Hid (Boxed w2 w.heap.size 4 (.bool false)) := Boxed.block HRB1.out (hb2.block _ (Boxed.lt HRB1.out))
    clear hb2 HC HB1 HRB1
    go_upto_region 5 with fail
    have HA : Hid (MemApart b sb wb n w.heap.size w2.heap.size (w2.heap.size + 1)) := by
      have h1 := HC2.out.lt; have h2 := (Boxed.lt HRB2.out)
      exact ⟨fun e => by have := h1.2 _ e; omega, fun e => by have := h1.2 _ e; omega, HRO.out, by omega, by omega, by omega, by omega, by omega, HRBB.out⟩
    have hM1 := mem_new w2
    have hM2 := mem_new (w2.alloc (.cells Try.zeroCells45 45))
    have hW : Below w2.heap.size w2 ((w2.alloc (.cells Try.zeroCells45 45)).alloc (.cells Try.zeroCells45 45)) := ((Below.refl _ _).alloc (Nat.le_refl _) _).alloc (by simp) _
    rw [World.size_alloc] at hM2
    have hM1' := hM1.block (Below.heap_alloc (w2.alloc (.cells Try.zeroCells45 45)) (.cells Try.zeroCells45 45) w2.heap.size (by simp))
    have HS3 : Hid (MemS w b sb wb n m w.heap.size w2.heap.size (w2.heap.size + 1) ((w2.alloc (.cells Try.zeroCells45 45)).alloc (.cells Try.zeroCells45 45))) :=
      ⟨_, st, _, _, HC2.out.below hW, MemInv.start n m, hM1', hM2, Boxed.block HRB2.out (hW.block _ (Boxed.lt HRB2.out)), HB2.out.trans (hW.mono HB2.out.size)⟩
    have HMB0 : Hid (w.heap.size ≤ w2.heap.size) := HB2.out.size
    clear hM1 hM2 hM1' hW HC2 HB2 HRB2
    generalize (w2.alloc (.cells Try.zeroCells45 45)).alloc (.cells Try.zeroCells45 45) = w3 at *
    have HMB : Hid (w.heap.size ≤ w2.heap.size) := HMB0.out
    generalize w2.heap.size = mb at *
    have hmt : mb + 1 ≠ mb := by omega
    clear hmt
    have HTB : Hid (w.heap.size ≤ mb + 1) := Nat.le_succ_of_le HMB.out
    generalize htb : mb + 1 = tb at *
    clear htb
    go_wp2_with fail
    go_loopw [13] (fun i wr => ∃ k : Nat, (k : Int) ≤ len ∧ (k : Int) ≤ 150 ∧ i = .int .i64 k ∧ MemS w b sb wb n m w.heap.size mb tb wr) (fun i _ => 150 - (intOf i).toNat)
    case atStart => exact ⟨0, by omega, by omega, rfl, HS3.out⟩
    case round =>
      clear HS3
      obtain ⟨k, hk, hk150, rfl, L, st, M, T, hc, hinv, hmm, hmt, hrb, hbe⟩ := hrel
      have HC := Lib.hid hc; have HINV := Lib.hid hinv; have HMM := Lib.hid hmm; have HMT := Lib.hid hmt; have HRB := Lib.hid hrb; have HBE := Lib.hid hbe
      clear hc hinv hmm hmt hrb hbe
      by_cases hlt : (k : Int) < len
      · by_cases hlt150 : (k : Int) < 150
        · clear hk hk150
          obtain ⟨hok, bo, oo, rfl, hbl, hcell⟩ := HZ.out k (by omega)
          have hb0 : ∀ i v, (z k).vals[i]? = some v → w.cell? ⟨bo, oo + k * 5 + i, none⟩ = some v := fun i v hv => hcell i v hv
          have c1 : wr.cell? ⟨bo, oo + k * 5 + 1, none⟩ = some (.int .u64 (z k).pa) := (HBE.out.cell (p := ⟨bo, oo + k * 5 + 1, none⟩) hbl).trans (hb0 1 _ rfl)
          have hpa := hok.pa
          have HV := Lib.hid hok.v
          have HOP := Lib.hid hb0
          have HBL := Lib.hid hbl
          clear hb0 hcell hbl hok
          generalize (z k).pa = PA at c1 hpa
          obtain ⟨hp0, hp1⟩ := hpa
          go_upto_region 9 with fail
          obtain ⟨kk, hk1, hk2⟩ : ∃ kk : Nat, PA % 2048 / 64 = kk ∧ kk < 32 := ⟨(PA % 2048 / 64).toNat, by omega, by omega⟩
          have hA0 : 0 ≤ PA % 2048 := by omega
          have hA1 : PA % 2048 < 2048 := by omega
          clear c1 hp0 hp1
          generalize PA % 2048 = A at *
          have HAA : Hid (0 ≤ A ∧ A < 2048 ∧ A < 18446744073709551616 ∧ A / 64 = kk ∧ kk < 32) := ⟨hA0, hA1, by omega, hk1, hk2⟩
          have hbs : IntKind.u64.wrap (A - A.tmod 64) = A / 64 * 64 := by
            rw [Int.tmod_eq_emod_of_nonneg hA0, IntKind.wrap_u64]
            omega
          have hbs2 : IntKind.u64.wrap (A - A % 64) = A / 64 * 64 := by
            rw [IntKind.wrap_u64]
            omega
          clear hk1 hk2 hA1
          go_upto_region 10 with fail
          clear hbs hbs2
          have HBB : Hid (A / 64 * 64 = (kk * 64 : Nat)) := by have := HAA.out; show _ = _; omega
          have hB0 : 0 ≤ A / 64 * 64 := by have := HAA.out; omega
          have hB1 : A / 64 * 64 < 2048 := by have := HAA.out; omega
          generalize A / 64 * 64 = Bs at *
          have hlook := cache_look HC.out A HAA.out.1 HAA.out.2.2.1
          have HP : Hid (decide (0 ≤ wayI m (L (setOf n A)) A) = true → ∃ i, i < m ∧ wayI m (L (setOf n A)) A = (i : Nat) ∧ isLine A (L (setOf n A) i) = true) := fun h => by
            rcases wayI_cases m (L (setOf n A)) A with ⟨e, _⟩ | ⟨i, h1, h2, h3, _⟩
            · rw [e] at h; simp at h
            · exact ⟨i, h1, h2, h3⟩
          have HN : Hid (decide (0 ≤ wayI m (L (setOf n A)) A) = false → wayI m (L (setOf n A)) A = -1) := fun h => by
            rcases wayI_cases m (L (setOf n A)) A with ⟨e, _⟩ | ⟨i, h1, h2, h3, _⟩
            · exact e
            · rw [h2] at h; simp at h
          generalize decide (0 ≤ wayI m (L (setOf n A)) A) = pr at *
          have HLK := Lib.hid hlook
          clear hlook
          go_wp2_with fail
          refine HLK.out.mono ?_
          rintro e w4 ⟨rfl, hb4⟩
          have HC4 := Lib.hid (HC.out.below hb4)
          have HMM4 := Lib.hid (HMM.out.block (hb4.block _ (World.rowIs.lt HMM.out)))
          have HMT4 := Lib.hid (HMT.out.block (hb4.block _ (World.rowIs.lt HMT.out)))
          have HRB4 : Hid (Boxed w4 w.heap.size 4 (.bool false)) := Boxed.block HRB.out (hb4.block _ (Boxed.lt HRB.out))
          have HBE4 := Lib.hid (HBE.out.trans (hb4.mono HBE.out.size))
          clear hb4 HC HMM HMT HRB HBE HLK
          go_upto_if 77 with fail
          go_cut [] (fun wx => MemP w b sb wb n m w.heap.size mb tb A T wx)
          case first =>
            cases pr with
            | true =>
              obtain ⟨i, h1, h2, h3⟩ := HP.out rfl
              have HF : Hid (MemP w b sb wb n m w.heap.size mb tb A T w4) := ⟨L, st, M, i, HC4.out, HINV.out, HMM4.out, HMT4.out, HRB4.out, HBE4.out, h1, h2, h3⟩
              clear h1 h2 h3
              go_wp2_with fail
              go_meet
              exact HF.out
            | false =>
              have hno := HN.out rfl
              have HNO := Lib.hid hno
              have w64 : IntKind.u64.wrap (Bs + 64) = Bs + 64 := by rw [IntKind.wrap_u64]; omega
              have hsl : ∀ W, (slice2k (.pointer (some ⟨mb, 0, none⟩)) (some (.int .u64 Bs)) (some (.int .u64 (Bs + 64))) none).run Try.prog W = .ok (.slice (some ⟨mb, kk * 64, none⟩) 64 (2048 - kk * 64)) W := fun W => by
                have h1 := HBB.out
                have h2 := HAA.out
                rw [run_slice2k mb Bs (Bs + 64) W hB0 (by omega) (by omega) hB1, h1, show (((kk * 64 : Nat) : Int) + 64 - (kk * 64 : Nat)).toNat = 64 by omega, Int.toNat_natCast]
              have HFI := Lib.hid (fill_ok HC4.out A HAA.out.1 HAA.out.2.2.1 hno mb (kk * 64) (2048 - kk * 64) (fun q => M (kk * 64 + q)) (fun q => HINV.out.bdM _) (mem_isRow HMM4.out HAA.out.2.2.2.2) HA.out.om)
              clear hno
              go_wp2_with fail
              refine HFI.out.mono ?_
              rintro e w5 hf
              obtain ⟨hc5, ht5, hr5⟩ := hf
              have hiF := fillWay_lt HM.out (L (setOf n A)) (st (setOf n A))
              have hwy := wayI_put HNO.out hiF (isLine_new A (fun q => M (kk * 64 + q)))
              generalize fillWay m (L (setOf n A)) (st (setOf n A)) = iF at *
              generalize upS st (setOf n A) (touched m (st (setOf n A)) iF) = st5 at *
              have HC5 := Lib.hid hc5; have HIF := Lib.hid hiF
              have HWY : Hid (wayI m (upS2 L (setOf n A) iF (newL A (fun q => M (kk * 64 + q))) (setOf n A)) A = (iF : Nat)) := by show _ = _; rw [upS2_same]; exact hwy
              have HLI : Hid (isLine A (upS2 L (setOf n A) iF (newL A (fun q => M (kk * 64 + q))) (setOf n A) iF) = true) := by show _ = _; rw [upS2_same, upL_same]; exact isLine_new _ _
              have HMM5 := Lib.hid (HMM4.out.block (ht5.block _ (World.rowIs.lt HMM4.out) HA.out.om))
              have HMT5 := Lib.hid (HMT4.out.block (ht5.block _ (World.rowIs.lt HMT4.out) HA.out.ot))
              have HRB5 : Hid (Boxed w5 w.heap.size 4 (.bool false)) := Boxed.block HRB4.out (ht5.block _ (Boxed.lt HRB4.out) HA.out.or)
              have HBE5 : Hid (Below w.heap.size w w5) := HBE4.out.trans (ht5.below HBE4.out.size HG.out)
              have HI5 := Lib.hid (fun M' h => HINV.out.fill (M' := M') HC4.out.hn HAA.out.2.2.2.1 HAA.out.2.2.2.2 HNO.out hiF h)
              have HPL := Lib.hid (fun hv => HINV.out.place (setOf n A) iF (setOf_lt HC4.out.hn A) hiF hv)
              clear hc5 hiF hwy ht5 HFI HC4 HMM4 HMT4 HRB4 HBE4 HNO HP HN
              generalize hold : L (setOf n A) iF = old at *
              rcases hr5 with ⟨hvd, rfl⟩ | ⟨hvd, g, gc, rfl, hown⟩
              · have HF : Hid (MemP w b sb wb n m w.heap.size mb tb A T w5) := ⟨_, st5, M, iF, HC5.out, HI5.out M (by rw [hvd]; rfl), HMM5.out, HMT5.out, HRB5.out, HBE5.out, HIF.out, HWY.out, HLI.out⟩
                clear hvd hold
                go_wp2_with fail
                go_meet
                exact HF.out
              · have hvd2 := hvd
                simp at hvd2
                obtain ⟨k2, hk2, htg, _⟩ := HPL.out hvd2.1
                have HTG := Lib.hid (And.intro hk2 htg)
                have HI6 := Lib.hid (HI5.out (overL M old) (by rw [hvd]; rfl))
                have HROW := Lib.hid (own64_row hown)
                have HGL : Hid (g < w5.heap.size) := by obtain ⟨_, _, h1, _⟩ := hown; exact blk_lt h1
                have hgm : g ≠ mb := fun e => by
                  obtain ⟨_, _, h1, _⟩ := hown
                  have h2 := HMM5.out.heap
                  rw [← e, h1] at h2
                  simp at h2
                have HOT : Hid (∀ W : World, W.rowIs mb 45 2048 (fun i => if k2 * 64 ≤ i ∧ i < k2 * 64 + 64 then .int .u8 (old.data (i - k2 * 64)) else .int .u8 (M i)) → MemAt W mb (overL M old)) := fun W h => over_row htg h
                have tg0 : 0 ≤ old.tag := by omega
                have tg1 : old.tag < 2048 := by omega
                have tgb : decide (1984 < old.tag) = false := by simp; omega
                have hsl2 : ∀ W, (slice2k (.pointer (some ⟨mb, 0, none⟩)) (some (.int .u64 old.tag)) none none).run Try.prog W = .ok (.slice (some ⟨mb, k2 * 64, none⟩) (2048 - k2 * 64) (2048 - k2 * 64)) W := fun W => by
                  rw [run_slice2k_to mb old.tag W tg0 tg1, htg, Int.toNat_natCast]
                have HK64 : Hid (64 = Nat.min 64 (2048 - k2 * 64)) := by show 64 = min 64 (2048 - k2 * 64); omega
                have HFT : Hid (k2 * 64 + 64 ≤ 2048) := by show _ ≤ _; omega
                have HMR : Hid (w5.rowIs mb 45 2048 (fun i => .int .u8 (M i))) := HMM5.out
                clear hvd hvd2 hold hk2 htg hown
                generalize old.tag = TG at *
                go_wp2_with ((with_reducible refine wpList_copy_row rfl (.tmp 106) (.tmp 107) 34 34 rfl 5 Try.underlying34 (by kernel_rfl) mb (k2 * 64) (2048 - k2 * 64) (2048 - k2 * 64) (some ⟨g, 0, none⟩) 64 gc rfl rfl 45 2048 (fun i => .int .u8 (M i)) HMR 64 HK64.out (fun q => .int .u8 (old.data q)) HROW HFT.out (fun _ _ => rfl) (by omega) ?_); intro w6 hr6 ht6)
                go_meet
                have hmm6 : MemAt w6 mb (overL M old) := HOT.out _ hr6.out
                have ht := ht6.out
                exact ⟨_, st5, _, iF, HC5.out.turned ht (fun e => HA.out.nm e.symm) (fun q hq e => HA.out.om (e ▸ hq)), HI6.out, hmm6, HMT5.out.block (ht.block _ (World.rowIs.lt HMT5.out) (fun e => HA.out.mt e.symm)), Boxed.block HRB5.out (ht.block _ (Boxed.lt HRB5.out) (fun e => HA.out.rm e)), HBE5.out.trans (ht.below HBE5.out.size (fun q e => by rw [e]; exact HMB.out)), HIF.out, HWY.out, HLI.out⟩
          case rest =>
            obtain ⟨L2, st2, M2, i, hc, hinv, hmm, hmt, hrb, hbe, him, hwy, hli⟩ := hcut
            generalize wc = w5 at *
            clear HINV HC4 HMM4 HMT4 HRB4 HBE4 HP HN
            have HC := Lib.hid hc; have HINV := Lib.hid hinv; have HMM := Lib.hid hmm; have HMT := Lib.hid hmt; have HRB := Lib.hid hrb; have HBE := Lib.hid hbe; have HIM := Lib.hid him; have HWY := Lib.hid hwy; have HLI := Lib.hid hli
            clear hc hinv hmm hmt hrb hbe him hwy hli hB0 hB1
            have c0 : w5.cell? ⟨bo, oo + k * 5, none⟩ = some (.int .i64 (z k).kd) := (HBE.out.cell (p := ⟨bo, oo + k * 5 + 0, none⟩) HBL.out).trans (HOP.out 0 _ rfl)
            have hA1 : A < 2048 := HAA.out.2.1
            have ha1 : A % ((1 : Nat) : Int) = 0 := by omega
            by_cases hkd : (z k).kd = 1
            · rw [hkd] at c0
              clear hkd
              have c3 : w5.cell? ⟨bo, oo + k * 5 + 3, none⟩ = some (.int .u64 (z k).v) := (HBE.out.cell (p := ⟨bo, oo + k * 5 + 3, none⟩) HBL.out).trans (HOP.out 3 _ rfl)
              have HC3 := Lib.hid c3
              obtain ⟨V, hV⟩ := Int.eq_ofNat_of_zero_le HV.out.1
              rw [hV] at c3
              have HVV := Lib.hid hV
              have HWR := Lib.hid (write_ok HC.out A HAA.out.1 HAA.out.2.2.1 1 (.inl rfl) ha1 i HWY.out HIM.out V)
              clear hV ha1
              go_wp2_with fail
              refine HWR.out.mono ?_
              rintro e w6 ⟨rfl, hc6, ht6⟩
              have hbe6 : Below w.heap.size w w6 := HBE.out.trans (ht6.below HBE.out.size HG.out)
              have hmt6 := HMT.out.block (ht6.block _ (World.rowIs.lt HMT.out) HA.out.ot)
              have c3 : w6.cell? ⟨bo, oo + k * 5 + 3, none⟩ = some (.int .u64 (V : Int)) := by rw [← HVV.out]; exact (hbe6.cell (p := ⟨bo, oo + k * 5 + 3, none⟩) HBL.out).trans (HOP.out 3 _ rfl)
              have ct : w6.cell? ⟨tb, A.toNat, none⟩ = some (.int .u8 (T A.toNat)) := World.rowIs.cell hmt6 (by omega)
              have ft : w6.frozen? ⟨tb, A.toNat, none⟩ = false := World.rowIs.frozen hmt6 _
              have HC6 := Lib.hid hc6
              have HBE6 := Lib.hid hbe6; have HMT6 := Lib.hid hmt6
              have HMM6 := Lib.hid (HMM.out.block (ht6.block _ (World.rowIs.lt HMM.out) HA.out.om))
              have HRB6 : Hid (Boxed w6 w.heap.size 4 (.bool false)) := Boxed.block HRB.out (ht6.block _ (Boxed.lt HRB.out) HA.out.or)
              clear hc6 ht6 hbe6 hmt6 HWR
              go_wp2_with fail
              have hts : Turned (· = tb) w6 (w6.setCell ⟨tb, A.toNat, none⟩ (.int .u8 ((V : Int) % 256))) := (Turned.refl (· = tb) w6).set (.inl rfl) _ _
              have hnew : MemAt (w6.setCell ⟨tb, A.toNat, none⟩ (.int .u8 ((V : Int) % 256))) tb (updT T A.toNat ((V % 256 : Nat) : Int)) := (World.rowIs.set HMT6.out A.toNat _).congr fun q hq => by
                unfold updT
                split
                · rfl
                · rfl
              refine ⟨⟨k + 1, by omega, by omega, by rw [Int.natCast_succ], _, _, M2, _, HC6.out.turned hts (fun e => HA.out.nt e.symm) (fun q hq e => HA.out.ot (e ▸ hq)), HINV.out.write HC.out.hn HAA.out.1 HAA.out.2.2.2.1 HAA.out.2.2.2.2 HIM.out HLI.out V, HMM6.out.block (hts.block _ (World.rowIs.lt HMM6.out) (fun e => HA.out.mt e)), hnew, Boxed.block HRB6.out (hts.block _ (Boxed.lt HRB6.out) (fun e => HA.out.rt e)), HBE6.out.trans (hts.below HBE6.out.size (fun q e => by rw [e]; exact HTB.out))⟩, by simp [intOf]; omega⟩
            · have hkd2 : ((z k).kd == 1) = false := by simpa using hkd
              clear hkd
              have HRD := Lib.hid (read_ok HC.out A HAA.out.1 HAA.out.2.2.1 1 (.inl rfl) ha1 i HWY.out HIM.out)
              have HX : Hid (((wordL (L2 (setOf n A) i) (A % 64).toNat 1 : Nat) : Int) = T A.toNat) := by
                show _ = _
                rw [← HINV.out.read HAA.out.1 HAA.out.2.1 HC.out.hn HIM.out HLI.out]
                have := ((HC.out.ok (setOf n A) i).data (A % 64).toNat).1
                simp [wordL, wordN]
                omega
              clear ha1
              go_wp2_with fail
              refine HRD.out.mono ?_
              rintro e w6 ⟨rfl, hc6, ht6⟩
              rw [HX.out]
              have hmt6 := HMT.out.block (ht6.block _ (World.rowIs.lt HMT.out) HA.out.ot)
              have ct : w6.cell? ⟨tb, A.toNat, none⟩ = some (.int .u8 (T A.toNat)) := World.rowIs.cell hmt6 (by omega)
              have htv := HINV.out.bdT A.toNat
              have HC6 := Lib.hid hc6; have HMT6 := Lib.hid hmt6
              have HBE6 : Hid (Below w.heap.size w w6) := HBE.out.trans (ht6.below HBE.out.size HG.out)
              have HMM6 := Lib.hid (HMM.out.block (ht6.block _ (World.rowIs.lt HMM.out) HA.out.om))
              have HRB6 : Hid (Boxed w6 w.heap.size 4 (.bool false)) := Boxed.block HRB.out (ht6.block _ (Boxed.lt HRB.out) HA.out.or)
              clear hc6 ht6 hmt6 HRD HX
              have wtv : IntKind.u64.wrap (T A.toNat) = T A.toNat := by rw [IntKind.wrap_u64]; omega
              generalize T A.toNat = tv at ct htv wtv ⊢
              clear htv
              go_wp2_with fail
              exact ⟨⟨k + 1, by omega, by omega, by rw [Int.natCast_succ], L2, _, M2, T, HC6.out, HINV.out, HMM6.out, HMT6.out, HRB6.out, HBE6.out⟩, by simp [intOf]; omega⟩
        · obtain rfl : k = 150 := by omega
          have HDI := Lib.hid (cache_dirty HC.out)
          have HNM : Hid (n * m ≤ 128) := by show _ ≤ _; have h1 := HC.out.hn; have h2 := HC.out.hm; rcases h1 with rfl | rfl | rfl | rfl | rfl <;> rcases h2 with rfl | rfl | rfl <;> omega
          go_wp2_with fail
          refine HDI.out.mono ?_
          rintro e w4 hd
          obtain ⟨⟨q, d, rfl, hdi, hperm, hasc⟩, hb⟩ := hd
          have heq : ∀ wq, (binOp BinOp.eql 49 (.func (.func 38) #[] #[.pointer (some ⟨q, 0, none⟩)]) .nilFunc).run Try.prog wq = .ok (.bool false) wq := fun wq => by kernel_rfl
          have hdl : d.length ≤ 128 := by
            rw [hperm.length_eq]
            exact Nat.le_trans (dl_len _) (Nat.le_trans (validTo_len L m n) HNM.out)
          have HB4 := Lib.hid hb; have HDQ := Lib.hid hdi; have HPM := Lib.hid hperm; have HDL := Lib.hid hdl
          have HMM4 := Lib.hid (HMM.out.block (hb.block _ (World.rowIs.lt HMM.out)))
          have HMT4 := Lib.hid (HMT.out.block (hb.block _ (World.rowIs.lt HMT.out)))
          have HRB4 : Hid (Boxed w4 w.heap.size 4 (.bool false)) := Boxed.block HRB.out (hb.block _ (Boxed.lt HRB.out))
          have HBE4 := Lib.hid (HBE.out.trans (hb.mono HBE.out.size))
          have HNS : Hid (∀ g, wr.heap.size ≤ g → g < w4.heap.size → ¬ (g = mb ∨ w4.heap.size ≤ g)) := fun g h1 h2 h3 => by have := World.rowIs.lt HMM.out; omega
          clear hb hdi hperm hasc hdl HDI
          go_wp2_with fail
          refine wpIn_wide.1 (range_pre (n := 3) rfl (by omega) (gf := 38) (lb := #[.pointer (some ⟨q, 0, none⟩)]) rfl trivial (enters_of Try.func38 (by kernel_rfl) rfl)
            (dirty_seq HDQ.out (3 - 1) w4.heap.size (by omega) (fun g => g = mb ∨ w4.heap.size ≤ g) HNS.out (Nat.le_refl _) HDL.out) own64_put turnedK_t (turnedK_b fun _ => .inr) (Below.refl _ _) (fun _ => rfl)
            (fun pre W => (MemAt W mb (overAll M (pre.map (·.1))) ∧ MemAt W tb T ∧ Boxed W w.heap.size 4 (.bool false)) ∧ Below w.heap.size w W)
            ?own ?start ?_ ?assign ?body ?done)
          case own => exact OwnFrom.and (Own.from (mem_own mb tb w.heap.size (fun pre : List Told => overAll M (pre.map (·.1))) T) _) (ownFrom_below (Nat.le_refl _) HBE4.out.size)
          case start => exact ⟨⟨HMM4.out, HMT4.out, HRB4.out⟩, HBE4.out⟩
          case assign =>
            intro l x W K hK
            unfold toldArgs
            gi_wp2
            exact hK
          case body =>
            rintro l pre ⟨x, g, gc⟩ W ⟨⟨hm, ht, hr⟩, hB⟩ ⟨hown, hx⟩ hlen
            have hok : ToldOk T x := HINV.out.told (HPM.out.mem_iff.1 (by
              have hx : x = d.getD pre.length .zero := hx
              rw [hx]
              simp [List.getD, hlen]))
            obtain ⟨k2, hk2, htg, _⟩ := hok
            have hown : Own64 W w4.heap.size g x.data := hown
            have HROW := Lib.hid (own64_row hown)
            have HOT : Hid (∀ W : World, W.rowIs mb 45 2048 (fun i => if k2 * 64 ≤ i ∧ i < k2 * 64 + 64 then .int .u8 (x.data (i - k2 * 64)) else .int .u8 (overAll M (pre.map (·.1)) i)) → MemAt W mb (overAll M ((pre ++ [(x, g, gc)]).map (·.1)))) := fun W h => by
              rw [List.map_append, List.map_singleton, overAll_snoc]
              exact over_row htg h
            have tg0 : 0 ≤ x.tag := by omega
            have tg1 : x.tag < 2048 := by omega
            have tgb : decide (1984 < x.tag) = false := by simp; omega
            have hsl2 : ∀ W, (slice2k (.pointer (some ⟨mb, 0, none⟩)) (some (.int .u64 x.tag)) none none).run Try.prog W = .ok (.slice (some ⟨mb, k2 * 64, none⟩) (2048 - k2 * 64) (2048 - k2 * 64)) W := fun W => by
              rw [run_slice2k_to mb x.tag W tg0 tg1, htg, Int.toNat_natCast]
            have HK64 : Hid (64 = Nat.min 64 (2048 - k2 * 64)) := by show 64 = min 64 (2048 - k2 * 64); omega
            have HFT : Hid (k2 * 64 + 64 ≤ 2048) := by show _ ≤ _; omega
            have HMR : Hid (W.rowIs mb 45 2048 (fun i => .int .u8 (overAll M (pre.map (·.1)) i))) := hm
            have HT := Lib.hid ht; have HR := Lib.hid hr; have HB := Lib.hid hB
            clear hk2 htg hown hx hlen hm ht hr hB
            generalize x.tag = TG at *
            gi_wp2_with ((with_reducible refine wpListIn_copy_row rfl (.tmp 163) (.tmp 164) 34 34 rfl 5 Try.underlying34 (by kernel_rfl) mb (k2 * 64) (2048 - k2 * 64) (2048 - k2 * 64) (some ⟨g, 0, none⟩) 64 gc rfl rfl 45 2048 (fun i => .int .u8 (overAll M (pre.map (·.1)) i)) HMR 64 HK64.out (fun q => .int .u8 (x.data q)) HROW HFT.out (fun _ _ => rfl) (by omega) ?_); intro w6 hr6 ht6)
            have ht := ht6.out
            have hmlt : mb < w4.heap.size := World.rowIs.lt HMM4.out
            exact ⟨keepsFrom_turned ht (fun q e => by rw [e]; exact hmlt), ht.mono (fun q e => .inl e), ⟨HOT.out _ hr6.out, HT.out.block (ht.block _ (World.rowIs.lt HT.out) (fun e => HA.out.mt e.symm)), Boxed.block HR.out (ht.block _ (Boxed.lt HR.out) (fun e => HA.out.rm e))⟩, HB.out.trans (ht.below HB.out.size (fun q e => by rw [e]; exact HMB.out))⟩
          case done =>
            rintro D xs W hD hxs ⟨⟨hm, ht, hr⟩, hB⟩ hK
            rw [hxs] at hm
            have hE := eq_mem _ _ (fun a ha => HINV.out.end_ HPM.out ha)
            obtain ⟨r1, r2⟩ := hm.loads
            obtain ⟨r3, r4⟩ := ht.loads
            have HBW := Lib.hid hB; have HK := Lib.hid hK; have HR := Lib.hid hr
            have hDr : D ≠ w.heap.size := fun e => by have := Boxed.lt HRB4.out; omega
            have HDR := Lib.hid hDr
            have HDL2 : Hid (w.heap.size ≤ D) := Nat.le_trans HBE4.out.size hD
            have c8 := Boxed.cell hr
            have f8 := Boxed.frozen hr
            clear hm ht hr hB hK hxs hD hDr
            generalize memArr (overAll M d) = Z1 at *
            generalize memArr T = Z2 at *
            go_wp2_with fail
            have hB2 : Boxed (W.setCell ⟨w.heap.size, 0, none⟩ (.bool true)) w.heap.size 4 (.bool true) := Boxed.set (.bool true) HR.out
            have hK' : (W.setCell ⟨w.heap.size, 0, none⟩ (.bool true)).heap[D]? = some (.deferred (some [])) := by
              rw [blk_set_ne _ _ (fun e => HDR.out e.symm)]
              exact HK.out
            refine ⟨by simp, .inl ⟨_, _, rfl, run_takeDeferred hK', ?_⟩⟩
            have hres := cell_kept (Boxed.cell hB2) (grownBy_putObj' _ D (.deferred none)) (fun r e => by cases e; exact ⟨_, hK', rfl⟩)
            refine ⟨_, by simp [results, asAddr, loadVar, isAgg, Try.underlying4, hres, go_sem], rfl, ?_⟩
            have hB1 : Below w.heap.size w (W.setCell ⟨w.heap.size, 0, none⟩ (.bool true)) := HBW.out.setCell (Nat.le_refl _) _
            exact hB1.trans (belowK_b (w := w) (Nat.le_refl _) _ D _ _ HDL2.out hK' rfl rfl)
      · obtain rfl : k = len := by omega
        have HDI := Lib.hid (cache_dirty HC.out)
        have HNM : Hid (n * m ≤ 128) := by show _ ≤ _; have h1 := HC.out.hn; have h2 := HC.out.hm; rcases h1 with rfl | rfl | rfl | rfl | rfl <;> rcases h2 with rfl | rfl | rfl <;> omega
        go_wp2_with fail
        refine HDI.out.mono ?_
        rintro e w4 hd
        obtain ⟨⟨q, d, rfl, hdi, hperm, hasc⟩, hb⟩ := hd
        have heq : ∀ wq, (binOp BinOp.eql 49 (.func (.func 38) #[] #[.pointer (some ⟨q, 0, none⟩)]) .nilFunc).run Try.prog wq = .ok (.bool false) wq := fun wq => by kernel_rfl
        have hdl : d.length ≤ 128 := by
          rw [hperm.length_eq]
          exact Nat.le_trans (dl_len _) (Nat.le_trans (validTo_len L m n) HNM.out)
        have HB4 := Lib.hid hb; have HDQ := Lib.hid hdi; have HPM := Lib.hid hperm; have HDL := Lib.hid hdl
        have HMM4 := Lib.hid (HMM.out.block (hb.block _ (World.rowIs.lt HMM.out)))
        have HMT4 := Lib.hid (HMT.out.block (hb.block _ (World.rowIs.lt HMT.out)))
        have HRB4 : Hid (Boxed w4 w.heap.size 4 (.bool false)) := Boxed.block HRB.out (hb.block _ (Boxed.lt HRB.out))
        have HBE4 := Lib.hid (HBE.out.trans (hb.mono HBE.out.size))
        have HNS : Hid (∀ g, wr.heap.size ≤ g → g < w4.heap.size → ¬ (g = mb ∨ w4.heap.size ≤ g)) := fun g h1 h2 h3 => by have := World.rowIs.lt HMM.out; omega
        clear hb hdi hperm hasc hdl HDI
        go_wp2_with fail
        refine wpIn_wide.1 (range_pre (n := 3) rfl (by omega) (gf := 38) (lb := #[.pointer (some ⟨q, 0, none⟩)]) rfl trivial (enters_of Try.func38 (by kernel_rfl) rfl)
          (dirty_seq HDQ.out (3 - 1) w4.heap.size (by omega) (fun g => g = mb ∨ w4.heap.size ≤ g) HNS.out (Nat.le_refl _) HDL.out) own64_put turnedK_t (turnedK_b fun _ => .inr) (Below.refl _ _) (fun _ => rfl)
          (fun pre W => (MemAt W mb (overAll M (pre.map (·.1))) ∧ MemAt W tb T ∧ Boxed W w.heap.size 4 (.bool false)) ∧ Below w.heap.size w W)
          ?own ?start ?_ ?assign ?body ?done)
        case own => exact OwnFrom.and (Own.from (mem_own mb tb w.heap.size (fun pre : List Told => overAll M (pre.map (·.1))) T) _) (ownFrom_below (Nat.le_refl _) HBE4.out.size)
        case start => exact ⟨⟨HMM4.out, HMT4.out, HRB4.out⟩, HBE4.out⟩
        case assign =>
          intro l x W K hK
          unfold toldArgs
          gi_wp2
          exact hK
        case body =>
          rintro l pre ⟨x, g, gc⟩ W ⟨⟨hm, ht, hr⟩, hB⟩ ⟨hown, hx⟩ hlen
          have hok : ToldOk T x := HINV.out.told (HPM.out.mem_iff.1 (by
            have hx : x = d.getD pre.length .zero := hx
            rw [hx]
            simp [List.getD, hlen]))
          obtain ⟨k2, hk2, htg, _⟩ := hok
          have hown : Own64 W w4.heap.size g x.data := hown
          have HROW := Lib.hid (own64_row hown)
          have HOT : Hid (∀ W : World, W.rowIs mb 45 2048 (fun i => if k2 * 64 ≤ i ∧ i < k2 * 64 + 64 then .int .u8 (x.data (i - k2 * 64)) else .int .u8 (overAll M (pre.map (·.1)) i)) → MemAt W mb (overAll M ((pre ++ [(x, g, gc)]).map (·.1)))) := fun W h => by
            rw [List.map_append, List.map_singleton, overAll_snoc]
            exact over_row htg h
          have tg0 : 0 ≤ x.tag := by omega
          have tg1 : x.tag < 2048 := by omega
          have tgb : decide (1984 < x.tag) = false := by simp; omega
          have hsl2 : ∀ W, (slice2k (.pointer (some ⟨mb, 0, none⟩)) (some (.int .u64 x.tag)) none none).run Try.prog W = .ok (.slice (some ⟨mb, k2 * 64, none⟩) (2048 - k2 * 64) (2048 - k2 * 64)) W := fun W => by
            rw [run_slice2k_to mb x.tag W tg0 tg1, htg, Int.toNat_natCast]
          have HK64 : Hid (64 = Nat.min 64 (2048 - k2 * 64)) := by show 64 = min 64 (2048 - k2 * 64); omega
          have HFT : Hid (k2 * 64 + 64 ≤ 2048) := by show _ ≤ _; omega
          have HMR : Hid (W.rowIs mb 45 2048 (fun i => .int .u8 (overAll M (pre.map (·.1)) i))) := hm
          have HT := Lib.hid ht; have HR := Lib.hid hr; have HB := Lib.hid hB
          clear hk2 htg hown hx hlen hm ht hr hB
          generalize x.tag = TG at *
          gi_wp2_with ((with_reducible refine wpListIn_copy_row rfl (.tmp 163) (.tmp 164) 34 34 rfl 5 Try.underlying34 (by kernel_rfl) mb (k2 * 64) (2048 - k2 * 64) (2048 - k2 * 64) (some ⟨g, 0, none⟩) 64 gc rfl rfl 45 2048 (fun i => .int .u8 (overAll M (pre.map (·.1)) i)) HMR 64 HK64.out (fun q => .int .u8 (x.data q)) HROW HFT.out (fun _ _ => rfl) (by omega) ?_); intro w6 hr6 ht6)
          have ht := ht6.out
          have hmlt : mb < w4.heap.size := World.rowIs.lt HMM4.out
          exact ⟨keepsFrom_turned ht (fun q e => by rw [e]; exact hmlt), ht.mono (fun q e => .inl e), ⟨HOT.out _ hr6.out, HT.out.block (ht.block _ (World.rowIs.lt HT.out) (fun e => HA.out.mt e.symm)), Boxed.block HR.out (ht.block _ (Boxed.lt HR.out) (fun e => HA.out.rm e))⟩, HB.out.trans (ht.below HB.out.size (fun q e => by rw [e]; exact HMB.out))⟩
        case done =>
          rintro D xs W hD hxs ⟨⟨hm, ht, hr⟩, hB⟩ hK
          rw [hxs] at hm
          have hE := eq_mem _ _ (fun a ha => HINV.out.end_ HPM.out ha)
          obtain ⟨r1, r2⟩ := hm.loads
          obtain ⟨r3, r4⟩ := ht.loads
          have HBW := Lib.hid hB; have HK := Lib.hid hK; have HR := Lib.hid hr
          have hDr : D ≠ w.heap.size := fun e => by have := Boxed.lt HRB4.out; omega
          have HDR := Lib.hid hDr
          have HDL2 : Hid (w.heap.size ≤ D) := Nat.le_trans HBE4.out.size hD
          have c8 := Boxed.cell hr
          have f8 := Boxed.frozen hr
          clear hm ht hr hB hK hxs hD hDr
          generalize memArr (overAll M d) = Z1 at *
          generalize memArr T = Z2 at *
          go_wp2_with fail
          have hB2 : Boxed (W.setCell ⟨w.heap.size, 0, none⟩ (.bool true)) w.heap.size 4 (.bool true) := Boxed.set (.bool true) HR.out
          have hK' : (W.setCell ⟨w.heap.size, 0, none⟩ (.bool true)).heap[D]? = some (.deferred (some [])) := by
            rw [blk_set_ne _ _ (fun e => HDR.out e.symm)]
            exact HK.out
          refine ⟨by simp, .inl ⟨_, _, rfl, run_takeDeferred hK', ?_⟩⟩
          have hres := cell_kept (Boxed.cell hB2) (grownBy_putObj' _ D (.deferred none)) (fun r e => by cases e; exact ⟨_, hK', rfl⟩)
          refine ⟨_, by simp [results, asAddr, loadVar, isAgg, Try.underlying4, hres, go_sem], rfl, ?_⟩
          have hB1 : Below w.heap.size w (W.setCell ⟨w.heap.size, 0, none⟩ (.bool true)) := HBW.out.setCell (Nat.le_refl _) _
          exact hB1.trans (belowK_b (w := w) (Nat.le_refl _) _ D _ _ HDL2.out hK' rfl rfl)

theorem cache_memory_walk (w : World) (a0 : Int) (w0 : (Lit.int .i64 a0).wf = true) (a1 : Int) (w1 : (Lit.int .i64 a1).wf = true) (a2 : Int) (w2 : (Lit.int .u64 a2).wf = true) (a : Option Addr) (len cap : Nat) (z : Nat → CacheOp) (hle : len ≤ cap) (hm : cap ≤ 9223372036854775807) (hz : CacheOps w a cap z) :
    Calls Try.prog 5 #[.int .i64 a0, .int .i64 a1, .int .u64 a2, .slice a len cap] w fun e w' => e = .returned (.bool true) ∧ Below w.heap.size w w' := by
  have h2 := wf_u64' w2
  exact memory_walk w a0 a1 a2 h2.1 (by omega) a len cap z (by omega) (fun i hi => hz i (by omega))
end Go.Proofs.Ytlcedcjcecahoaa
