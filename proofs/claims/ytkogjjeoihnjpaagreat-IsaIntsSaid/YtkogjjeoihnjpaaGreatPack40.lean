/- What the laws' walks over steps lean on: rules for whole structs, what stays between steps, a step. No condition. -/
import Derived.Test.YtkogjjeoihnjpaaGreatPack38
import Derived.Test.YtkogjjeoihnjpaaGreatPack35
import Derived.Test.YtkogjjeoihnjpaaGreatPack39
section
set_option linter.unusedVariables false
set_option linter.unusedSimpArgs false
namespace Go.Proofs.YtkogjjeoihnjpaaGreat
open Go.RowKit Sx
set_option maxRecDepth 100000
/-! ### whole structs in one step -/
theorem st_rec (x v : Value) : Instr.storeAt 30 x v = storeS 30 x v := rfl
theorem rs_rec (w : World) (g : Nat) (C : Array Value) (h : rowIs w g 12 = true) (hC : stOk 12 C = true) : (storeS 30 (.pointer (some ⟨g, 0, none⟩)) (.agg C)).run Tryz.prog w = .ok () (w.setRow g C) :=
  run_storeS' Tryz.prog 30 12 (by kernel_rfl) w g C h hC
theorem st_hart (x v : Value) : Instr.storeAt 43 x v = storeS 43 x v := rfl
theorem ld_hart (x : Value) : Instr.loadAt 43 x = loadS 43 x := rfl
theorem rl_hart (w : World) (g : Nat) (h : rowIs w g 66 = true) : (loadS 43 (.pointer (some ⟨g, 0, none⟩))).run Tryz.prog w = .ok (.agg (rowOf w g)) w :=
  run_loadS Tryz.prog 43 _ 66 Tryz.underlying43 rfl (by kernel_rfl) w g h
theorem rs_hart (w : World) (g : Nat) (C : Array Value) (h : rowIs w g 66 = true) (hC : stOk 66 C = true) : (storeS 43 (.pointer (some ⟨g, 0, none⟩)) (.agg C)).run Tryz.prog w = .ok () (w.setRow g C) :=
  run_storeS' Tryz.prog 43 66 (by kernel_rfl) w g C h hC
def loadE (x : Value) : Sem Value := Instr.loadAt 38 x
theorem ld_env (x : Value) : Instr.loadAt 38 x = loadE x := rfl
theorem rl_env {w : World} {b o : Nat} {ev : List Int} (h : w.rangeAt b o (cksV envC ev)) : (loadE (.pointer (some ⟨b, o, none⟩))).run Tryz.prog w = .ok (.agg (cksV envC ev).toArray) w :=
  run_loadAt_mid (P := Tryz.prog) w b o 38 (cksV envC ev) _ h Tryz.underlying38 rfl (by rw [cksV_len]; kernel_rfl)
def recA (R : List Int) : Array Value := (cksV recC R).toArray
def hartA (h : List Int) : Array Value := (cksV hartC h).toArray
theorem recA_ok (R : List Int) : stOk 12 (recA R) = true := by
  show ((recA R).size == 12 && (recA R).all (·.oneCell')) = true
  rw [show (recA R).all (·.oneCell') = true from all_oneCell_toArray (cksV_one recC R)]
  simp only [recA, List.size_toArray, cksV_len]
  rfl
theorem hartA_ok (h : List Int) : stOk 66 (hartA h) = true := by
  show ((hartA h).size == 66 && (hartA h).all (·.oneCell')) = true
  rw [show (hartA h).all (·.oneCell') = true from all_oneCell_toArray (cksV_one hartC h)]
  simp only [hartA, List.size_toArray, cksV_len]
  rfl
theorem recA_size (R : List Int) : (recA R).size = 12 := by simp only [recA, List.size_toArray, cksV_len]; rfl
theorem hartA_size (h : List Int) : (hartA h).size = 66 := by simp only [hartA, List.size_toArray, cksV_len]; rfl
theorem recA_get (R : List Int) (k : Nat) (c : CK) (h : recC[k]? = some c) : (recA R)[k]? = some (ckV c (R.getD k 0)) := by
  simp only [recA, List.getElem?_toArray]; exact cksV_get recC R k c h
theorem hartA_get (l : List Int) (k : Nat) (c : CK) (h : hartC[k]? = some c) : (hartA l)[k]? = some (ckV c (l.getD k 0)) := by
  simp only [hartA, List.getElem?_toArray]; exact cksV_get hartC l k c h
/-! ### what stays -/
/-- a pair of machines between steps: its own blocks lie above those of W -/
structure Keep (W wr : World) (N q mq p b : Nat) (S : Nat → Prop) (h : List Int) (ct : Nat → Nat) : Prop where
  pair : wr.heap[q]? = some (.cells #[.pointer (some ⟨p, 0, none⟩), .pointer (some ⟨mq, 0, none⟩)] 34 (0, 0))
  mach : MachAt wr p b (cksV hartC h)
  ram : RamAt wr b N ct S
  hart : InB hartR h
  may : KsOk (env0 h) mayK
  ap : p ≠ b ∧ ¬ S p ∧ q ≠ p ∧ q ≠ b ∧ ¬ S q
  up : (∀ g, S g → W.heap.size ≤ g) ∧ W.heap.size ≤ p ∧ W.heap.size ≤ b ∧ W.heap.size ≤ q
  below : Below W.heap.size W wr
theorem Keep.lt {W wr : World} {N q mq p b : Nat} {S : Nat → Prop} {h : List Int} {ct : Nat → Nat} (k : Keep W wr N q mq p b S h ct) : p < wr.heap.size ∧ b < wr.heap.size ∧ q < wr.heap.size ∧ ∀ g, S g → g < wr.heap.size := ⟨blk_lt k.mach.2, k.ram.self.2, blk_lt k.pair, fun g hg => k.ram.lt hg⟩
/-- blocks turn that are none of its own -/
theorem Keep.turned {W wr w' : World} {N q mq p b : Nat} {S T : Nat → Prop} {h : List Int} {ct : Nat → Nat} (k : Keep W wr N q mq p b S h ct) (ht : Turned T wr w') (hp : ¬ T p) (hb : ¬ T b) (hq : ¬ T q) (hS : ∀ g, S g → ¬ T g) (hW : ∀ g, T g → W.heap.size ≤ g) : Keep W w' N q mq p b S h ct := by
  obtain ⟨l1, l2, l3, l4⟩ := k.lt
  refine ⟨(ht.block q l3 hq).trans k.pair, ⟨k.mach.1, (ht.block p l1 hp).trans k.mach.2⟩, k.ram.turned ht hb hS, k.hart, k.may, k.ap, k.up, k.below.trans (ht.below k.below.size hW)⟩
theorem Keep.on {W wr w' : World} {N q mq p b : Nat} {S : Nat → Prop} {h : List Int} {ct : Nat → Nat} (k : Keep W wr N q mq p b S h ct) (hb : Below wr.heap.size wr w') : Keep W w' N q mq p b S h ct :=
  k.turned (T := fun _ => False) (.of_below hb _) id id id (fun _ _ => id) (fun _ h => h.elim)
theorem Keep.setRow {W wr : World} {N q mq p b : Nat} {S : Nat → Prop} {h : List Int} {ct : Nat → Nat} (k : Keep W wr N q mq p b S h ct) {g : Nat} (C : Array Value) (hp : p ≠ g) (hb : b ≠ g) (hq : q ≠ g) (hS : ¬ S g) (hW : W.heap.size ≤ g) : Keep W (wr.setRow g C) N q mq p b S h ct :=
  k.turned (T := (· = g)) ⟨rfl, rfl, rfl, by simp [World.setRow], fun x hx hn => setRow_other wr g x _ hn⟩ hp hb hq (fun x hx e => hS (e ▸ hx)) (fun x e => by rw [e]; exact hW)
/-- a step -/
theorem Keep.step {W wr : World} {N q mq p b : Nat} {S : Nat → Prop} {h : List Int} {ct : Nat → Nat} (k : Keep W wr N q mq p b S h ct) {ev : List Int} (he : InB envR ev) :
    Calls Tryz.prog 16 #[.pointer (some ⟨p, 0, none⟩), .agg (cksV envC ev).toArray] wr fun e w' => ∃ F S', F = stpF ct (h ++ ev ++ [(N : Int)]) ∧ e = .returned (.agg (recA (F.drop 66))) ∧ StepFacts h ev F ∧ Keep W w' N q mq p b S' (F.take 66) (putsL N ct (F.drop 78)) ∧ (∀ g, S' g → S g ∨ wr.heap.size ≤ g) ∧ Turned (fun g => g = p ∨ g = b ∨ S g) wr w' := by
  obtain ⟨⟨k1, k2⟩, k3⟩ := step_told k.hart he k.may k.mach k.ram k.ap.1 k.ap.2.1
  have hf := stepFacts k.hart he k1 k2
  obtain ⟨l1, l2, l3, l4⟩ := k.lt
  obtain ⟨a1, a2, a3, a4, a5⟩ := k.ap
  obtain ⟨u1, u2, u3, u4⟩ := k.up
  have hsz := k.below.size
  refine k3.mono ?_
  rintro e w' ⟨rfl, ⟨S', t1, t2, t3⟩, t4⟩
  generalize hF : stpF ct (h ++ ev ++ [(N : Int)]) = F at *
  have ht : cksV hartC F = cksV hartC (F.take 66) := by
    conv => lhs; rw [← List.take_append_drop 66 F]
    exact cksV_more hartC _ _ (by rw [List.length_take, hf.len]; decide)
  rw [ht] at t4
  refine ⟨F, S', rfl, rfl, hf, ⟨(t2.block q l3 ?_).trans k.pair, t4, t1, hf.hart, hf.may, ⟨a1, fun hs => ?_, a3, a4, fun hs => ?_⟩, ⟨fun g hg => ?_, u2, u3, u4⟩, ?_⟩, t3, t2⟩
  · rintro (e | e | e)
    · exact a3 e
    · exact a4 e
    · exact a5 e
  · rcases t3 p hs with hs | hs
    · exact a2 hs
    · omega
  · rcases t3 q hs with hs | hs
    · exact a5 hs
    · omega
  · rcases t3 g hg with hs | hs
    · exact u1 g hs
    · omega
  · refine k.below.trans (t2.below hsz ?_)
    rintro g (rfl | rfl | hg)
    · exact u2
    · exact u3
    · exact u1 g hg
theorem Keep.of {W w' : World} {N q p b mq sb : Nat} {S : Nat → Prop} {ct : Nat → Nat} {f : Nat → Value} (h : PairIs w' W.heap.size N q p b mq sb S hart0L hart0L ct f) (hb : Below W.heap.size W w') : Keep W w' N q mq p b S hart0L ct :=
  ⟨h.pair, h.mach, h.ram, hart0_in, hart0_may, ⟨h.pb, h.pS, h.apq.1, h.apq.2.1, h.apq.2.2⟩, ⟨h.own, h.p_, h.b_, h.q_⟩, hb⟩
/-- the worlds of a run, as they came in -/
def EnvRow (w : World) (a : Option Addr) (m : Nat) (evs : Nat → List Int) : Prop := ∀ i, i < m → InB envR (evs i) ∧ ∃ b o, a = some ⟨b, o, none⟩ ∧ b < w.heap.size ∧ w.rangeAt b (o + i * 10) (cksV envC (evs i))
theorem rangeAt_below {w w' : World} {b o : Nat} {cs : List Value} (h : w.rangeAt b o cs) (hb : b < w.heap.size) (hw : Below w.heap.size w w') : w'.rangeAt b o cs := fun j v hv => by
  rw [← h j v hv]
  simp only [World.cell?, hw.block b hb]
theorem rec_cell {w : World} {g : Nat} {R : List Int} {T : TypeId} (h : w.heap[g]? = some (.cells (recA R) T (0, 0))) (j : Nat) (c : CK) (hc : recC[j]? = some c) : w.cell? ⟨g, j, none⟩ = some (ckV c (R.getD j 0)) := by
  rw [blk_cell h j]; exact recA_get R j c hc
theorem getD_drop (F : List Int) (a j : Nat) : (F.drop a).getD j 0 = F.getD (a + j) 0 := by simp [List.getD]
theorem getD_take (F : List Int) (a j : Nat) (h : j < a) : (F.take a).getD j 0 = F.getD j 0 := by simp [List.getD, List.getElem?_take_of_lt h]
theorem rec_cells {w : World} {g : Nat} {F : List Int} {T : TypeId} (h : w.heap[g]? = some (.cells (recA (F.drop 66)) T (0, 0))) : w.cell? ⟨g, 0, none⟩ = some (.int .u64 (F.getD 66 0)) ∧ w.cell? ⟨g, 3, none⟩ = some (.bool (decide (F.getD 69 0 = 1))) ∧ w.cell? ⟨g, 6, none⟩ = some (.int .i64 (F.getD 72 0)) ∧ w.cell? ⟨g, 7, none⟩ = some (.int .u64 (F.getD 73 0)) ∧ w.cell? ⟨g, 8, none⟩ = some (.int .i64 (F.getD 74 0)) := by
  have h0 := rec_cell h 0 _ rfl
  have h3 := rec_cell h 3 _ rfl
  have h6 := rec_cell h 6 _ rfl
  have h7 := rec_cell h 7 _ rfl
  have h8 := rec_cell h 8 _ rfl
  rw [getD_drop] at h0 h3 h6 h7 h8
  exact ⟨h0, h3, h6, h7, h8⟩
theorem hartC_x (j : Nat) (h : j < 32) : hartC[2 + j]? = some cu := by
  have : (List.range 32).all (fun j => decide (hartC[2 + j]? = some cu)) = true := by kernel_rfl
  exact of_decide_eq_true (List.all_eq_true.1 this j (List.mem_range.2 h))
theorem hart_cells {w : World} {g : Nat} {F : List Int} {T : TypeId} (h : w.heap[g]? = some (.cells (hartA (F.take 66)) T (0, 0))) {j : Nat} (hj : j < 32) : w.cell? ⟨g, 2 + j, none⟩ = some (.int .u64 (F.getD (2 + j) 0)) := by
  rw [blk_cell h (2 + j), hartA_get _ _ _ (hartC_x j hj), getD_take _ _ _ (by omega)]
  rfl
theorem env_cell {w : World} {b o : Nat} {ev : List Int} (h : w.rangeAt b o (cksV envC ev)) : w.cell? ⟨b, o, none⟩ = some (.int .u64 (ev.getD 0 0)) := by
  have := h 0 _ (cksV_get envC ev 0 cu rfl)
  rw [Nat.add_zero] at this
  exact this
end Go.Proofs.YtkogjjeoihnjpaaGreat
end
