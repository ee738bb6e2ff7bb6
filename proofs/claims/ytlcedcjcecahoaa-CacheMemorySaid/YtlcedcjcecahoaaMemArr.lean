/- Memory of 2048 bytes as an array: loads, slices, copies, held against another. No condition. -/
import Derived.Test.YtlcedcjcecahoaaMem
import Derived.Test.YtlcedcjcecahoaaEqArr
set_option linter.unusedVariables false
set_option linter.unusedSimpArgs false
namespace Go.Proofs.Ytlcedcjcecahoaa
open Go.RowKit Go.Shelf
set_option maxRecDepth 100000
/-- 2048 bytes in one block -/
def memList (M : Nat → Int) : List Int := (List.range 2048).map M
def memArr (M : Nat → Int) : Array Value := ((memList M).map (Value.int .u8)).toArray
theorem memArr_get (M : Nat → Int) (i : Nat) (h : i < 2048) : (memArr M)[i]? = some (.int .u8 (M i)) := by simp [memArr, memList, h]
theorem memArr_size (M : Nat → Int) : (memArr M).size = 2048 := by simp [memArr, memList]
def MemAt (w : World) (g : Nat) (M : Nat → Int) : Prop := w.rowIs g 45 2048 (fun i => .int .u8 (M i))
theorem MemAt.heap {w : World} {g : Nat} {M : Nat → Int} (h : MemAt w g M) : w.heap[g]? = some (.cells (memArr M) 45 (0, 0)) := by
  obtain ⟨cur, h1, h2, h3⟩ := h
  rw [h1]
  have : cur = memArr M := by
    apply Array.ext (by rw [h2, memArr_size])
    intro i hi1 hi2
    have a1 := h3 i (by omega)
    have a2 := memArr_get M i (by omega)
    rw [Array.getElem?_eq_getElem hi1] at a1
    rw [Array.getElem?_eq_getElem hi2] at a2
    exact Option.some.inj (a1.trans a2.symm)
  rw [this]
theorem MemAt.loads {w : World} {g : Nat} {M : Nat → Int} (h : MemAt w g M) : rowIs w g 2048 = true ∧ rowOf w g = memArr M := ⟨by have := rowIs_of h.heap; rw [memArr_size] at this; exact this, rowOf_of h.heap⟩
theorem ld_mem (x : Value) : Instr.loadAt 45 x = loadS 45 x := rfl
theorem rl_mem (w : World) (g : Nat) (h : rowIs w g 2048 = true) : (loadS 45 (.pointer (some ⟨g, 0, none⟩))).run Try.prog w = .ok (.agg (rowOf w g)) w :=
  run_loadS Try.prog 45 _ 2048 Try.underlying45 rfl (by kernel_rfl) w g h
theorem eq_mem (M T : Nat → Int) (h : ∀ a, a < 2048 → M a = T a) (w : World) : (Op.equalIn 10000 45 (.agg (memArr M)) (.agg (memArr T))).run Try.prog w = .ok true w := by
  have := run_equalIn_ints (P := Try.prog) w 9998 45 5 .u8 2048 Try.underlying45 Try.underlying5 (fun w => by kernel_rfl) (memList M) (memList T) (by simp [memList]) (by simp [memList])
  have e : memList M = memList T := List.map_congr_left fun a ha => h a (List.mem_range.1 ha)
  rw [e] at this
  unfold memArr
  rw [e]
  refine this.trans ?_
  simp
def slice2k (x : Value) (lo hi mx : Option Value) : Sem Value := Instr.sliceAt 45 x lo hi mx
theorem sl_2k (x : Value) (lo hi mx : Option Value) : Instr.sliceAt 45 x lo hi mx = slice2k x lo hi mx := rfl
theorem run_slice2k (g : Nat) (a b : Int) (w : World) (h0 : 0 ≤ a) (h1 : a ≤ b) (h2 : b ≤ 2048) (h3 : a < 2048) :
    (slice2k (.pointer (some ⟨g, 0, none⟩)) (some (.int .u64 a)) (some (.int .u64 b)) none).run Try.prog w = .ok (.slice (some ⟨g, a.toNat, none⟩) (b - a).toNat (2048 - a.toNat)) w := by
  have hu := Try.underlying45
  have hb : (b.toNat : Int) = b := by omega
  unfold slice2k
  have hs : ∀ w, (sizeOf 5).run Try.prog w = .ok 1 w := fun w => by kernel_rfl
  simp only [Instr.sliceAt, Sem.run_bind, run_underlying hu, Result.andThen_ok, Instr.sureAddr, Sem.run_pure, Instr.sliceBounds, Instr.sliceBound, asIntOf, if_pos (show 0 ≤ b ∧ b ≤ ((2048 : Nat) : Int) from ⟨by omega, by omega⟩), if_pos (show 0 ≤ a ∧ a ≤ ((b.toNat : Nat) : Int) from ⟨by omega, by omega⟩), hs]
  rw [if_neg (by omega)]
  simp only [addr_add, Nat.mul_one, Nat.zero_add]
  rw [show b.toNat - a.toNat = (b - a).toNat by omega]
theorem run_slice2k_to (g : Nat) (a : Int) (w : World) (h0 : 0 ≤ a) (h3 : a < 2048) :
    (slice2k (.pointer (some ⟨g, 0, none⟩)) (some (.int .u64 a)) none none).run Try.prog w = .ok (.slice (some ⟨g, a.toNat, none⟩) (2048 - a.toNat) (2048 - a.toNat)) w := by
  have hu := Try.underlying45
  unfold slice2k
  have hs : ∀ w, (sizeOf 5).run Try.prog w = .ok 1 w := fun w => by kernel_rfl
  simp only [Instr.sliceAt, Sem.run_bind, run_underlying hu, Result.andThen_ok, Instr.sureAddr, Sem.run_pure, Instr.sliceBounds, Instr.sliceBound, asIntOf, if_pos (show 0 ≤ a ∧ a ≤ ((2048 : Nat) : Int) from ⟨by omega, by omega⟩), hs]
  rw [if_neg (by omega)]
  simp only [addr_add, Nat.mul_one, Nat.zero_add]
theorem wpListIn_copy_own {F : Fence} {nF : Nat} {P : Program} {w : World} {ops : Array Oper} {rest : List Oper} {o : Oper} {a : Act} {Q : Exit → Act → World → Prop} (hgd : o.guard = none) (d s : Operand) (dT sT : TypeId)
    (ho : o.op = .call { callee := .builtin .copy, args := #[d, s], argTypes := #[dT, sT] }) (elem : TypeId) (hu : P.underlying dT = some (.slice elem)) (hsz : (P.info? elem).map (·.size) = some 1)
    (g off dLen dCap : Nat) (ad : Addr) (sLen sCap : Nat) (hd : a.eval d = .slice (some ⟨g, off, none⟩) dLen dCap) (hs : a.eval s = .slice (some ad) sLen sCap)
    (cur : Array Value) (t : TypeId) (hg : w.heap[g]? = some (.cells cur t (0, 0))) (cs : List Value) (hn : cs.length = Nat.min sLen dLen)
    (hsrc : ∀ j v, cs[j]? = some v → w.cell? (ad.add j) = some v) (hfit : off + cs.length ≤ cur.size) (h1 : ∀ v ∈ cs, v.oneCell' = true)
    (h : wpListIn F nF P ops Q rest (a.put o.dst (goInt cs.length)) (w.setRow g (cur.toList.take off ++ (cs ++ cur.toList.drop (off + cs.length))).toArray)) : wpListIn F nF P ops Q (o :: rest) a w := by
  refine wpListIn_plain hgd fun K hK => ?_
  have hrun := run_copy_row (P := P) w dT sT o.type elem g off dLen dCap ad sLen sCap cur t cs hu hsz hg hn hsrc hfit h1
  unfold Oper.wpIn
  refine ⟨by simp [Oper.about, ho, resolve, Target.leads, Sem.run_pure], ?_⟩
  rw [Oper.semAt_plain F _ _ (by rw [ho]; intro c hc'; cases hc')]
  simp [execOp, ho, resolve, invoke, builtin, hd, hs, hrun, Result.andThen]
  exact hK _ _ h
theorem wpListIn_copy_row {F : Fence} {nF : Nat} {P : Program} {w : World} {ops : Array Oper} {rest : List Oper} {o : Oper} {a : Act} {Q : Exit → Act → World → Prop} (hgd : o.guard = none) (d s : Operand) (dT sT : TypeId)
    (ho : o.op = .call { callee := .builtin .copy, args := #[d, s], argTypes := #[dT, sT] }) (elem : TypeId) (hu : P.underlying dT = some (.slice elem)) (hsz : (P.info? elem).map (·.size) = some 1)
    (g off dLen dCap : Nat) (sp : Option Addr) (sLen sCap : Nat) (hd : a.eval d = .slice (some ⟨g, off, none⟩) dLen dCap) (hs : a.eval s = .slice sp sLen sCap)
    (t : TypeId) (n : Nat) (f : Nat → Value) (hg : Hid (w.rowIs g t n f)) (k : Nat) (hk : k = Nat.min sLen dLen) (V : Nat → Value) (hsrc : Hid (IsRow w sp k V)) (hfit : off + k ≤ n) (h1 : ∀ i, i < k → (V i).oneCell' = true) (hk0 : 0 < k)
    (h : ∀ w', Hid (w'.rowIs g t n (fun i => if off ≤ i ∧ i < off + k then V (i - off) else f i)) → Hid (Turned (· = g) w w') → wpListIn F nF P ops Q rest (a.put o.dst (goInt k)) w') :
    wpListIn F nF P ops Q (o :: rest) a w := by
  obtain ⟨cur, hc, hsz2, hf⟩ := hg.out
  obtain ⟨sb, so, rfl, hlt, hcell⟩ := hsrc.out hk0
  have hlen : ((List.range k).map V).length = k := by simp
  refine wpListIn_copy_own hgd d s dT sT ho elem hu hsz g off dLen dCap ⟨sb, so, none⟩ sLen sCap hd hs cur t hc ((List.range k).map V) (by rw [hlen]; exact hk) ?_ (by rw [hlen]; omega) ?_ ?_
  · intro j v hv
    have hj : j < k := by have := (List.getElem?_eq_some_iff.1 hv).1; omega
    simp [hj] at hv
    rw [addr_add, hcell j hj, hv]
  · intro v hv
    simp only [List.mem_map, List.mem_range] at hv
    obtain ⟨i, hi, rfl⟩ := hv
    exact h1 i hi
  · rw [hlen]
    refine h _ (show World.rowIs _ _ _ _ _ from ⟨_, setRow_heap w g _ _ t _ hc, ?_, ?_⟩) (show Turned _ _ _ from ⟨rfl, rfl, rfl, by simp [World.setRow], fun q hq hn => setRow_other w g q _ hn⟩)
    · simp [hsz2]; omega
    · intro i hi
      have hi2 : i < cur.size := by omega
      simp only [List.getElem?_toArray]
      by_cases h1 : i < off
      · rw [List.getElem?_append_left (by simp; omega), if_neg (by omega), List.getElem?_take_of_lt h1, Array.getElem?_toList]
        exact hf i hi
      · rw [List.getElem?_append_right (by simp; omega)]
        have hl : (cur.toList.take off).length = off := by simp; omega
        rw [hl]
        by_cases h2 : i < off + k
        · rw [List.getElem?_append_left (by rw [hlen]; omega), if_pos (by omega)]
          simp [show i - off < k by omega]
        · rw [List.getElem?_append_right (by rw [hlen]; omega), hlen, if_neg (by omega), List.getElem?_drop, Array.getElem?_toList]
          rw [show off + k + (i - off - k) = i by omega]
          exact hf i hi
/-- a line laid over memory -/
theorem over_row {w : World} {g : Nat} {M : Nat → Int} {x : CLine} {k : Nat} (hx : x.tag = (k * 64 : Nat)) (hr : w.rowIs g 45 2048 (fun i => if k * 64 ≤ i ∧ i < k * 64 + 64 then .int .u8 (x.data (i - k * 64)) else .int .u8 (M i))) : MemAt w g (overL M x) := by
  refine hr.congr fun i hi => ?_
  unfold overL
  rw [hx, Int.toNat_natCast]
  split <;> rfl
theorem own64_row {w : World} {B g : Nat} {D : Nat → Int} (h : Own64 w B g D) : IsRow w (some ⟨g, 0, none⟩) 64 (fun q => .int .u8 (D q)) := fun _ => by
  obtain ⟨_, cur, h1, h2⟩ := h
  refine ⟨g, 0, rfl, blk_lt h1, fun i hi => ?_⟩
  unfold World.cell?
  simp only [h1, Nat.zero_add]
  exact h2 i hi
theorem own64_put {n0 : Nat} {p : List Told → Told → Prop} (pre : List Told) (x : Told) (W : World) (l : Nat) (o o' : Obj) (hl : W.heap[l]? = some o) (ho : o.isCells = false) (h : Own64 W n0 x.2.1 x.1.data ∧ p pre x) : Own64 (W.putObj l o') n0 x.2.1 x.1.data ∧ p pre x := by
  obtain ⟨⟨h0, cur, h1, h2⟩, hp⟩ := h
  refine ⟨⟨h0, cur, (World.putObj_heap_other fun e => ?_).trans h1, h2⟩, hp⟩
  subst e
  rw [h1] at hl
  cases hl
  cases ho
theorem mem_new (w : World) : MemAt (w.alloc (.cells Try.zeroCells45 45)) w.heap.size (fun _ => 0) := by
  have e : Try.zeroCells45 = memArr fun _ => 0 := by kernel_rfl
  rw [e]
  exact ⟨_, World.alloc_heap_new _ _, memArr_size _, fun i hi => memArr_get _ i hi⟩
end Go.Proofs.Ytlcedcjcecahoaa
