/- Contracts of the cache's Look, part, Read, Write. No condition. -/
import Derived.Test.YtlcedcjcecahoaaCache1
import Derived.Test.YtlcedcjcecahoaaBits
import Derived.Laws.CopyOwn
import Derived.IntWalk
import Derived.StillTailTactics
import Derived.BigRegion
import Derived.Deep.RegionWith
import Derived.Deep.RegionHeld3
import Derived.Deep.QuietTactic
import Derived.BigQuiet
import Derived.Deep.LoopGhost
import Derived.Deep.DeepCutAuto
import Derived.Deep.DeepFit
import Derived.Deep.DeepMust
import Derived.Handy
set_option linter.unusedVariables false
set_option linter.unusedSimpArgs false
namespace Go.Proofs.Ytlcedcjcecahoaa
open Go.RowKit
set_option maxRecDepth 100000
theorem Turned.drewN {S : Nat → Prop} {a b : World} (h : Turned S a b) (n : Nat) : Turned S a (b.drewN n) := ⟨h.os, h.tape, h.output, h.size, h.block⟩
/-! rows into which several cells are put -/
theorem rowIs_setCells {w : World} {b n : Nat} {t : TypeId} : ∀ (vs : List Value) (o : Nat) (w : World) (f : Nat → Value), w.rowIs b t n f → (w.setCells b o vs).rowIs b t n (fun j => if o ≤ j ∧ j < o + vs.length then vs.getD (j - o) undef else f j)
  | [], o, w, f, h => h.congr fun i hi => by rw [if_neg (by simp)]
  | v :: r, o, w, f, h => by
    refine (rowIs_setCells (w := w) r (o + 1) _ _ (h.set o v)).congr fun i hi => ?_
    simp only [List.length_cons]
    by_cases h1 : o + 1 ≤ i ∧ i < o + 1 + r.length
    · rw [if_pos h1, if_pos (by omega)]
      obtain ⟨k, rfl⟩ : ∃ k, i = o + 1 + k := ⟨i - (o + 1), by omega⟩
      rw [show o + 1 + k - (o + 1) = k by omega, show o + 1 + k - o = k + 1 by omega]
      rfl
    · rw [if_neg h1]
      by_cases h2 : i = o
      · subst h2
        rw [if_pos rfl, if_pos (by omega)]
        simp
      · rw [if_neg h2, if_neg (by omega)]
theorem turned_setCells (b : Nat) : ∀ (vs : List Value) (o : Nat) (a w : World), Turned (· = b) a w → Turned (· = b) a (w.setCells b o vs)
  | [], _, _, _, h => h
  | v :: r, o, a, w, h => turned_setCells b r (o + 1) a _ (h.set (.inl rfl) o v)
theorem way_store {w : World} {g m : Nat} {L : Nat → CLine} (h : w.rowIs g 76 (m * 67) (wayCell L)) {j : Nat} (hj : j < m) (l : CLine) : (w.setCells g (j * 67) (lineArr l).toList).rowIs g 76 (m * 67) (wayCell (upL L j l)) := by
  refine (rowIs_setCells (w := w) _ _ _ _ h).congr fun i hi => ?_
  have hl : (lineArr l).toList.length = 67 := by simp [lineArr_size]
  rw [hl]
  by_cases h1 : j * 67 ≤ i ∧ i < j * 67 + 67
  · rw [if_pos h1]
    obtain ⟨k, rfl⟩ : ∃ k, i = j * 67 + k := ⟨i - j * 67, by omega⟩
    rw [wayCell_at _ _ _ (by omega), show j * 67 + k - j * 67 = k by omega]
    have hk : k < 67 := by omega
    simp [lineArr, lineVals, hk, upL]
  · rw [if_neg h1]
    unfold wayCell upL
    rw [if_neg (by omega)]
theorem rs_line (w : World) (g o : Nat) (l : CLine) (h : lineThere w g o = true) : (storeL (.pointer (some ⟨g, o, none⟩)) (.agg (lineArr l))).run Try.prog w = .ok () (w.setCells g o (lineArr l).toList) := by
  have ht : w.there g o (lineArr l).size := fun j hj => by
    rw [lineArr_size] at hj
    have := List.all_eq_true.1 h j (List.mem_range.2 hj)
    simpa using this
  exact run_storeAt_mid (P := Try.prog) w g o 76 (lineArr l) ht (by rw [lineArr_size]; kernel_rfl) (lineArr_one l)
/-- bytes copied into the midst of a row -/
theorem wpList_copy_row {P : Program} {w : World} {ops : Array Oper} {rest : List Oper} {o : Oper} {a : Act} {Q : Exit → Act → World → Prop} (hgd : o.guard = none) (d s : Operand) (dT sT : TypeId)
    (ho : o.op = .call { callee := .builtin .copy, args := #[d, s], argTypes := #[dT, sT] }) (elem : TypeId) (hu : P.underlying dT = some (.slice elem)) (hsz : (P.info? elem).map (·.size) = some 1)
    (g off dLen dCap : Nat) (sp : Option Addr) (sLen sCap : Nat) (hd : a.eval d = .slice (some ⟨g, off, none⟩) dLen dCap) (hs : a.eval s = .slice sp sLen sCap)
    (t : TypeId) (n : Nat) (f : Nat → Value) (hg : Hid (w.rowIs g t n f)) (k : Nat) (hk : k = Nat.min sLen dLen) (V : Nat → Value) (hsrc : Hid (IsRow w sp k V)) (hfit : off + k ≤ n) (h1 : ∀ i, i < k → (V i).oneCell' = true) (hk0 : 0 < k)
    (h : ∀ w', Hid (w'.rowIs g t n (fun i => if off ≤ i ∧ i < off + k then V (i - off) else f i)) → Hid (Turned (· = g) w w') → wpList P ops Q rest (a.put o.dst (goInt k)) w') :
    wpList P ops Q (o :: rest) a w := by
  obtain ⟨cur, hc, hsz2, hf⟩ := hg.out
  obtain ⟨sb, so, rfl, hlt, hcell⟩ := hsrc.out hk0
  have hlen : ((List.range k).map V).length = k := by simp
  refine wpList_copy_own hgd d s dT sT ho elem hu hsz g off dLen dCap ⟨sb, so, none⟩ sLen sCap hd hs cur t hc ((List.range k).map V) (by rw [hlen]; exact hk) ?_ (by rw [hlen]; omega) ?_ ?_
  · intro j v hv
    have hj : j < k := by have := (List.getElem?_eq_some_iff.1 hv).1; omega
    simp [hj] at hv
    rw [addr_add, hcell j hj, hv]
  · intro v hv
    simp only [List.mem_map, List.mem_range] at hv
    obtain ⟨i, hi, rfl⟩ := hv
    exact h1 i hi
  · rw [hlen]
    refine h _ (show World.rowIs _ _ _ _ _ from ⟨_, setRow_heap w g _ _ t _ hc, ?_, ?_⟩) (show Turned _ _ _ from ⟨rfl, rfl, rfl, by simp [World.setRow], fun q hq hn => setRow_other w g q _ hn⟩)
    · simp [hsz2]; omega
    · intro i hi
      have hi2 : i < cur.size := by omega
      simp only [List.getElem?_toArray]
      by_cases h1 : i < off
      · rw [List.getElem?_append_left (by simp; omega), if_neg (by omega), List.getElem?_take_of_lt h1, Array.getElem?_toList]
        exact hf i hi
      · rw [List.getElem?_append_right (by simp; omega)]
        have hl : (cur.toList.take off).length = off := by simp; omega
        rw [hl]
        by_cases h2 : i < off + k
        · rw [List.getElem?_append_left (by rw [hlen]; omega), if_pos (by omega)]
          simp [show i - off < k by omega]
        · rw [List.getElem?_append_right (by rw [hlen]; omega), if_neg (by omega), hlen, List.getElem?_drop, Array.getElem?_toList, show off + k + (i - off - k) = i by omega]
          exact hf i hi
/-! the searches -/
theorem cache_look {w : World} {b sb : Nat} {wb : Nat → Nat} {n m : Nat} {L : Nat → Nat → CLine} {st : Nat → Nat} (h : CacheIs w b sb wb n m L st) (x : Int) (h0 : 0 ≤ x) (h1 : x < 18446744073709551616) :
    Calls Try.prog 11 #[.pointer (some ⟨b, 0, none⟩), .int .u64 x] w fun e w' => e = .returned (.bool (decide (0 ≤ wayI m (L (setOf n x)) x))) ∧ Below w.heap.size w w' := by
  have HF := Lib.hid (cache_find h x h0 h1)
  clear h h0 h1
  generalize wayI m (L (setOf n x)) x = wi at *
  go_enter Try.func11, Try.ntmps11
  go_wp2_with fail
  refine HF.out.mono ?_
  rintro e w2 ⟨rfl, hb⟩
  have HB := Lib.hid hb
  clear hb
  go_wp2_with fail
  go_ret
  exact ⟨rfl, HB.out⟩
theorem look_nil (x : Int) (w : World) :
    Calls Try.prog 11 #[.pointer none, .int .u64 x] w fun e w' => e = .returned (.bool false) ∧ Below w.heap.size w w' := by
  go_enter Try.func11, Try.ntmps11
  go_wp2_with fail
  refine (find_nil x w).mono ?_
  rintro e w2 ⟨rfl, hb⟩
  have HB := Lib.hid hb
  clear hb
  go_wp2_with fail
  go_ret
  exact ⟨rfl, HB.out⟩
def slice64 (x : Value) (lo hi mx : Option Value) : Sem Value := Instr.sliceAt 74 x lo hi mx
theorem sl_64 (x : Value) (lo hi mx : Option Value) : Instr.sliceAt 74 x lo hi mx = slice64 x lo hi mx := rfl
theorem run_slice64 (g o : Nat) (a b : Int) (w : World) (h0 : 0 ≤ a) (h1 : a ≤ b) (h2 : b ≤ 64) (h3 : a < 64) :
    (slice64 (.pointer (some ⟨g, o, none⟩)) (some (.int .i64 a)) (some (.int .i64 b)) none).run Try.prog w = .ok (.slice (some ⟨g, o + a.toNat, none⟩) (b - a).toNat (64 - a.toNat)) w := by
  have hu := Try.underlying74
  have hb : (b.toNat : Int) = b := by omega
  unfold slice64
  have hs : ∀ w, (sizeOf 5).run Try.prog w = .ok 1 w := fun w => by kernel_rfl
  simp only [Instr.sliceAt, Sem.run_bind, run_underlying hu, Result.andThen_ok, Instr.sureAddr, Sem.run_pure, Instr.sliceBounds, Instr.sliceBound, asIntOf, if_pos (show 0 ≤ b ∧ b ≤ ((64 : Nat) : Int) from ⟨by omega, by omega⟩), if_pos (show 0 ≤ a ∧ a ≤ ((b.toNat : Nat) : Int) from ⟨by omega, by omega⟩), hs]
  rw [if_neg (by omega)]
  simp only [addr_add, Nat.mul_one]
  rw [show b.toNat - a.toNat = (b - a).toNat by omega]
theorem run_slice64_all (g o : Nat) (w : World) :
    (slice64 (.pointer (some ⟨g, o, none⟩)) none none none).run Try.prog w = .ok (.slice (some ⟨g, o, none⟩) 64 64) w := by
  have hu := Try.underlying74
  unfold slice64
  have hs : ∀ w, (sizeOf 5).run Try.prog w = .ok 1 w := fun w => by kernel_rfl
  simp only [Instr.sliceAt, Sem.run_bind, run_underlying hu, Result.andThen_ok, Instr.sureAddr, Sem.run_pure, Instr.sliceBounds, Instr.sliceBound, asIntOf, hs]
  rw [if_neg (by omega)]
  simp only [addr_add, Nat.zero_mul, Nat.add_zero, Nat.sub_zero]
attribute [local go_sem ↓] sl_64
attribute [local go_sem] run_slice64_all
/-! part -/
def NoPart (w : World) (e : Ending) (w' : World) : Prop := e = .returned (.tuple #[.pointer none, .slice none 0 0]) ∧ Below w.heap.size w w'
theorem part_nil (x k : Int) (w : World) : Calls Try.prog 26 #[.pointer none, .int .u64 x, .int .i64 k] w (NoPart w) := by
  go_enter Try.func26, Try.ntmps26
  go_wp2_with fail
  refine (find_nil x w).mono ?_
  rintro e w2 ⟨rfl, hb⟩
  have HB := Lib.hid hb
  clear hb
  go_wp2_with fail
  go_ret2
  exact ⟨rfl, HB.out⟩
theorem part_no {w : World} {b sb : Nat} {wb : Nat → Nat} {n m : Nat} {L : Nat → Nat → CLine} {st : Nat → Nat} (h : CacheIs w b sb wb n m L st) (x : Int) (h0 : 0 ≤ x) (h1 : x < 18446744073709551616) (k : Int) (hno : wayI m (L (setOf n x)) x < 0) :
    Calls Try.prog 26 #[.pointer (some ⟨b, 0, none⟩), .int .u64 x, .int .i64 k] w (NoPart w) := by
  have HF := Lib.hid (cache_find h x h0 h1)
  clear h h0 h1
  generalize wayI m (L (setOf n x)) x = wi at *
  go_enter Try.func26, Try.ntmps26
  go_wp2_with fail
  refine HF.out.mono ?_
  rintro e w2 ⟨rfl, hb⟩
  have HB := Lib.hid hb
  clear hb
  go_wp2_with fail
  go_ret2
  exact ⟨rfl, HB.out⟩
def Size4 (k : Nat) : Prop := k = 1 ∨ k = 2 ∨ k = 4 ∨ k = 8
def upS2 (L : Nat → Nat → CLine) (s j : Nat) (l : CLine) : Nat → Nat → CLine := fun t => if t = s then upL (L s) j l else L t
/-- where a part of a line lies; its set's tree is touched -/
def PartAt (w : World) (b sb : Nat) (wb : Nat → Nat) (n m : Nat) (L : Nat → Nat → CLine) (st : Nat → Nat) (x : Int) (k i : Nat) (e : Ending) (w' : World) : Prop :=
  e = .returned (.tuple #[.pointer (some ⟨wb (setOf n x), i * 67, none⟩), .slice (some ⟨wb (setOf n x), i * 67 + 3 + (x % 64).toNat, none⟩) k (64 - (x % 64).toNat)]) ∧ CacheIs w' b sb wb n m L (upS st (setOf n x) (touched m (st (setOf n x)) i)) ∧ Turned (CacheOwn sb wb n) w w'
theorem CacheIs.touch {w w2 w3 : World} {b sb s i : Nat} {wb : Nat → Nat} {n m : Nat} {L : Nat → Nat → CLine} {st : Nat → Nat} (h : CacheIs w b sb wb n m L st) (hb : Below w.heap.size w w2) (hr : w3.rowIs sb 65 (n * 2) (setCellF wb m (upS st s (touched m (st s) i)))) (ht : Turned (· = sb) w2 w3) (hs : s < n) (hi : i < m) :
    CacheIs w3 b sb wb n m L (upS st s (touched m (st s) i)) ∧ Turned (CacheOwn sb wb n) w w3 := by
  have h2 := h.below hb
  have hne := h.sb_ne
  refine ⟨⟨(ht.block _ (blk_lt h2.at_) hne.1).trans h2.at_, hr, fun t hlt => (h2.ways t hlt).of_block (ht.block _ (h2.ways t hlt).lt (fun e => (hne.2 t hlt).2 e.symm)), h.inj, h.hn, h.hm, fun t hlt => ?_, h.ok⟩, ?_⟩
  · unfold upS
    by_cases e : t = s
    · subst e; rw [if_pos rfl]; exact (touched_ok h.hm (h.hst t hs) hi).1
    · rw [if_neg e]; exact h.hst t hlt
  · exact (Turned.of_below hb _).trans ht (by rintro g rfl; exact .inl (.inl rfl))
set_option maxHeartbeats 8000000 in
theorem part_ok {w : World} {b sb : Nat} {wb : Nat → Nat} {n m : Nat} {L : Nat → Nat → CLine} {st : Nat → Nat} (h : CacheIs w b sb wb n m L st) (x : Int) (h0 : 0 ≤ x) (h1 : x < 18446744073709551616) (k : Nat) (hk : Size4 k) (ha : x % k = 0) (i : Nat) (hi : wayI m (L (setOf n x)) x = i) (hm : i < m) :
    Calls Try.prog 26 #[.pointer (some ⟨b, 0, none⟩), .int .u64 x, .int .i64 k] w (PartAt w b sb wb n m L st x k i) := by
  have HF := Lib.hid (cache_find h x h0 h1)
  rw [hi] at HF
  have H := Lib.hid h
  have HS := Lib.hid (setOf_lt h.hn x)
  have HM := Lib.hid hm
  have HI0 : (0 : Int) ≤ (i : Int) := by omega
  have HAL := fun W => Lib.hid (bits_aligned x h0 k (by rcases hk with rfl | rfl | rfl | rfl <;> omega) (by rcases hk with rfl | rfl | rfl | rfl <;> omega) W)
  have hat : (0 : Int) ≤ x % 64 ∧ x % 64 + k ≤ 64 := by rcases hk with rfl | rfl | rfl | rfl <;> omega
  have HA := Lib.hid hat
  have HAA : Hid (decide (x % (k : Int) = 0) = true) := by show decide _ = true; simpa using ha
  have HTC := Lib.hid (fun (W : World) (hr : W.rowIs sb 65 (n * 2) (setCellF wb m st)) => set_touch hr (setOf_lt h.hn x) h.hm (h.hst _ (setOf_lt h.hn x)) hm)
  have him : (i : Int) < m := by omega
  have hm8 : (m : Int) ≤ 8 := by rcases h.hm with rfl | rfl | rfl <;> omega
  clear h hi hm ha hat
  unfold PartAt
  generalize hss : setOf n x = s at *
  clear hss
  generalize hat : (x % 64).toNat = at_ at *
  have HATE : Hid (x % 64 = (at_ : Int)) := by have := HA.out; show x % 64 = _; omega
  have HQ : Hid ((at_ : Int) + k ≤ 64) := by have := HA.out; show (at_ : Int) + k ≤ 64; omega
  clear hat
  rcases hk with rfl | rfl | rfl | rfl
  · have HQ1 : Hid ((at_ : Int) + 1 ≤ 64) := HQ.out
    have HW1 : Hid (IntKind.i64.wrap ((at_ : Int) + 1) = (at_ : Int) + 1) := by show IntKind.i64.wrap _ = _; exact IntWalk.i64_in _ ⟨by omega, by have := HQ1.out; omega⟩
    go_enter Try.func26, Try.ntmps26
    go_wp2_with fail
    refine HF.out.mono ?_
    rintro e w2 ⟨rfl, hb⟩
    have HB := Lib.hid hb
    clear hb
    go_wp2_with fail
    refine ((HAL _).out).mono ?_
    rintro e w3 ⟨rfl, rfl⟩
    rw [HAA.out]
    have H2 := Lib.hid (H.out.below HB.out)
    go_wp2_with fail
    refine (HTC.out w2 H2.out.sets).mono ?_
    rintro e w3 ⟨rfl, hr3, ht3⟩
    have HR3 := Lib.hid hr3; have HT3 := Lib.hid ht3
    clear hr3 ht3
    have hx := HATE.out
    have hq := HQ1.out
    have hq2 : (at_ : Int) < 64 := by omega
    have c0 : w3.cell? ⟨sb, s * 2, none⟩ = some (.slice (some ⟨wb s, 0, none⟩) m m) := by rw [HR3.out.cell (by have := HS.out; omega), setCellF_0]
    have hg0 : (0 : Int) ≤ at_ := by omega
    have hsl : ∀ wq : World, (slice64 (.pointer (some ⟨wb s, i * 67 + 3, none⟩)) (some (.int .i64 (at_ : Int))) (some (.int .i64 ((at_ : Int) + 1))) none).run Try.prog wq = .ok (.slice (some ⟨wb s, i * 67 + 3 + at_, none⟩) 1 (64 - at_)) wq := fun wq => by
      rw [run_slice64 _ _ _ _ _ (by omega) (by omega) (by omega) (by omega), show ((at_ : Int) + 1 - at_).toNat = 1 by omega, Int.toNat_natCast]
    have hw1 := HW1.out
    go_wp2_with fail
    go_quiet (fail)
    clear hw1
    go_wp2_with fail
    go_ret2
    exact ⟨rfl, H.out.touch HB.out HR3.out (HT3.out.drewN _) HS.out HM.out⟩
  · have HQ1 : Hid ((at_ : Int) + 2 ≤ 64) := HQ.out
    have HW1 : Hid (IntKind.i64.wrap ((at_ : Int) + 2) = (at_ : Int) + 2) := by show IntKind.i64.wrap _ = _; exact IntWalk.i64_in _ ⟨by omega, by have := HQ1.out; omega⟩
    go_enter Try.func26, Try.ntmps26
    go_wp2_with fail
    refine HF.out.mono ?_
    rintro e w2 ⟨rfl, hb⟩
    have HB := Lib.hid hb
    clear hb
    go_wp2_with fail
    refine ((HAL _).out).mono ?_
    rintro e w3 ⟨rfl, rfl⟩
    rw [HAA.out]
    have H2 := Lib.hid (H.out.below HB.out)
    go_wp2_with fail
    refine (HTC.out w2 H2.out.sets).mono ?_
    rintro e w3 ⟨rfl, hr3, ht3⟩
    have HR3 := Lib.hid hr3; have HT3 := Lib.hid ht3
    clear hr3 ht3
    have hx := HATE.out
    have hq := HQ1.out
    have hq2 : (at_ : Int) < 64 := by omega
    have c0 : w3.cell? ⟨sb, s * 2, none⟩ = some (.slice (some ⟨wb s, 0, none⟩) m m) := by rw [HR3.out.cell (by have := HS.out; omega), setCellF_0]
    have hg0 : (0 : Int) ≤ at_ := by omega
    have hsl : ∀ wq : World, (slice64 (.pointer (some ⟨wb s, i * 67 + 3, none⟩)) (some (.int .i64 (at_ : Int))) (some (.int .i64 ((at_ : Int) + 2))) none).run Try.prog wq = .ok (.slice (some ⟨wb s, i * 67 + 3 + at_, none⟩) 2 (64 - at_)) wq := fun wq => by
      rw [run_slice64 _ _ _ _ _ (by omega) (by omega) (by omega) (by omega), show ((at_ : Int) + 2 - at_).toNat = 2 by omega, Int.toNat_natCast]
    have hw1 := HW1.out
    go_wp2_with fail
    go_quiet (fail)
    clear hw1
    go_wp2_with fail
    go_ret2
    exact ⟨rfl, H.out.touch HB.out HR3.out (HT3.out.drewN _) HS.out HM.out⟩
  · have HQ1 : Hid ((at_ : Int) + 4 ≤ 64) := HQ.out
    have HW1 : Hid (IntKind.i64.wrap ((at_ : Int) + 4) = (at_ : Int) + 4) := by show IntKind.i64.wrap _ = _; exact IntWalk.i64_in _ ⟨by omega, by have := HQ1.out; omega⟩
    go_enter Try.func26, Try.ntmps26
    go_wp2_with fail
    refine HF.out.mono ?_
    rintro e w2 ⟨rfl, hb⟩
    have HB := Lib.hid hb
    clear hb
    go_wp2_with fail
    refine ((HAL _).out).mono ?_
    rintro e w3 ⟨rfl, rfl⟩
    rw [HAA.out]
    have H2 := Lib.hid (H.out.below HB.out)
    go_wp2_with fail
    refine (HTC.out w2 H2.out.sets).mono ?_
    rintro e w3 ⟨rfl, hr3, ht3⟩
    have HR3 := Lib.hid hr3; have HT3 := Lib.hid ht3
    clear hr3 ht3
    have hx := HATE.out
    have hq := HQ1.out
    have hq2 : (at_ : Int) < 64 := by omega
    have c0 : w3.cell? ⟨sb, s * 2, none⟩ = some (.slice (some ⟨wb s, 0, none⟩) m m) := by rw [HR3.out.cell (by have := HS.out; omega), setCellF_0]
    have hg0 : (0 : Int) ≤ at_ := by omega
    have hsl : ∀ wq : World, (slice64 (.pointer (some ⟨wb s, i * 67 + 3, none⟩)) (some (.int .i64 (at_ : Int))) (some (.int .i64 ((at_ : Int) + 4))) none).run Try.prog wq = .ok (.slice (some ⟨wb s, i * 67 + 3 + at_, none⟩) 4 (64 - at_)) wq := fun wq => by
      rw [run_slice64 _ _ _ _ _ (by omega) (by omega) (by omega) (by omega), show ((at_ : Int) + 4 - at_).toNat = 4 by omega, Int.toNat_natCast]
    have hw1 := HW1.out
    go_wp2_with fail
    go_quiet (fail)
    clear hw1
    go_wp2_with fail
    go_ret2
    exact ⟨rfl, H.out.touch HB.out HR3.out (HT3.out.drewN _) HS.out HM.out⟩
  · have HQ1 : Hid ((at_ : Int) + 8 ≤ 64) := HQ.out
    have HW1 : Hid (IntKind.i64.wrap ((at_ : Int) + 8) = (at_ : Int) + 8) := by show IntKind.i64.wrap _ = _; exact IntWalk.i64_in _ ⟨by omega, by have := HQ1.out; omega⟩
    go_enter Try.func26, Try.ntmps26
    go_wp2_with fail
    refine HF.out.mono ?_
    rintro e w2 ⟨rfl, hb⟩
    have HB := Lib.hid hb
    clear hb
    go_wp2_with fail
    refine ((HAL _).out).mono ?_
    rintro e w3 ⟨rfl, rfl⟩
    rw [HAA.out]
    have H2 := Lib.hid (H.out.below HB.out)
    go_wp2_with fail
    refine (HTC.out w2 H2.out.sets).mono ?_
    rintro e w3 ⟨rfl, hr3, ht3⟩
    have HR3 := Lib.hid hr3; have HT3 := Lib.hid ht3
    clear hr3 ht3
    have hx := HATE.out
    have hq := HQ1.out
    have hq2 : (at_ : Int) < 64 := by omega
    have c0 : w3.cell? ⟨sb, s * 2, none⟩ = some (.slice (some ⟨wb s, 0, none⟩) m m) := by rw [HR3.out.cell (by have := HS.out; omega), setCellF_0]
    have hg0 : (0 : Int) ≤ at_ := by omega
    have hsl : ∀ wq : World, (slice64 (.pointer (some ⟨wb s, i * 67 + 3, none⟩)) (some (.int .i64 (at_ : Int))) (some (.int .i64 ((at_ : Int) + 8))) none).run Try.prog wq = .ok (.slice (some ⟨wb s, i * 67 + 3 + at_, none⟩) 8 (64 - at_)) wq := fun wq => by
      rw [run_slice64 _ _ _ _ _ (by omega) (by omega) (by omega) (by omega), show ((at_ : Int) + 8 - at_).toNat = 8 by omega, Int.toNat_natCast]
    have hw1 := HW1.out
    go_wp2_with fail
    go_quiet (fail)
    clear hw1
    go_wp2_with fail
    go_ret2
    exact ⟨rfl, H.out.touch HB.out HR3.out (HT3.out.drewN _) HS.out HM.out⟩
/-! Read -/
def NoRead (w : World) (e : Ending) (w' : World) : Prop := e = .returned (.tuple #[.int .u64 0, .bool false]) ∧ Below w.heap.size w w'
theorem bits_word_nil (w : World) : Calls Try.prog 27 #[.slice none 0 0] w fun e w' => e = .returned (.int .u64 0) ∧ w = w' :=
  bits_word none 0 0 [] w ⟨rfl, by simp, .inl ⟨rfl, rfl⟩⟩ (by omega)
theorem read_nil (x k : Int) (w : World) : Calls Try.prog 10 #[.pointer none, .int .u64 x, .int .i64 k] w (NoRead w) := by
  go_enter Try.func10, Try.ntmps10
  go_wp2_with fail
  refine (part_nil x k w).mono ?_
  rintro e w2 ⟨rfl, hb⟩
  have HB := Lib.hid hb
  clear hb
  go_wp2_with fail
  refine (bits_word_nil w2).mono ?_
  rintro e w3 ⟨rfl, rfl⟩
  go_wp2_with fail
  go_ret2
  exact ⟨rfl, HB.out⟩
theorem read_no {w : World} {b sb : Nat} {wb : Nat → Nat} {n m : Nat} {L : Nat → Nat → CLine} {st : Nat → Nat} (h : CacheIs w b sb wb n m L st) (x : Int) (h0 : 0 ≤ x) (h1 : x < 18446744073709551616) (k : Int) (hno : wayI m (L (setOf n x)) x < 0) :
    Calls Try.prog 10 #[.pointer (some ⟨b, 0, none⟩), .int .u64 x, .int .i64 k] w (NoRead w) := by
  have HP := Lib.hid (part_no h x h0 h1 k hno)
  clear h h0 h1 hno
  go_enter Try.func10, Try.ntmps10
  go_wp2_with fail
  refine HP.out.mono ?_
  rintro e w2 ⟨rfl, hb⟩
  have HB := Lib.hid hb
  clear hb
  go_wp2_with fail
  refine (bits_word_nil w2).mono ?_
  rintro e w3 ⟨rfl, rfl⟩
  go_wp2_with fail
  go_ret2
  exact ⟨rfl, HB.out⟩
/-- the bytes of a part of a line -/
def partL (l : CLine) (at_ k : Nat) : List Int := (List.range k).map fun q => l.data (at_ + q)
def wordL (l : CLine) (at_ k : Nat) : Nat := wordN (fun q => (l.data (at_ + q)).toNat) k
theorem part_isB {w : World} {g m : Nat} {L : Nat → CLine} (h : w.rowIs g 76 (m * 67) (wayCell L)) (hok : ∀ j, (L j).Ok) {i : Nat} (hi : i < m) {at_ k : Nat} (ha : at_ + k ≤ 64) (hk : 0 < k) : IsB w (some ⟨g, i * 67 + 3 + at_, none⟩) k (partL (L i) at_ k) := by
  refine ⟨by simp [partL], fun y hy => ?_, .inr ⟨g, i * 67 + 3 + at_, rfl, fun q hq => ?_⟩⟩
  · simp only [partL, List.mem_map] at hy
    obtain ⟨q, _, rfl⟩ := hy
    exact (hok i).data _
  · have h1 := Nat.mul_le_mul_right 67 (show i + 1 ≤ m from hi)
    rw [h.cell (show i * 67 + 3 + at_ + q < m * 67 by omega), show i * 67 + 3 + at_ + q = i * 67 + (3 + at_ + q) by omega, wayCell_at _ _ _ (by omega)]
    unfold lineCell
    rw [if_neg (by omega), if_neg (by omega), if_neg (by omega)]
    simp [partL, List.getD, hq, show 3 + at_ + q - 3 = at_ + q by omega]
def ReadAt (w : World) (b sb : Nat) (wb : Nat → Nat) (n m : Nat) (L : Nat → Nat → CLine) (st : Nat → Nat) (x : Int) (k i : Nat) (e : Ending) (w' : World) : Prop :=
  e = .returned (.tuple #[.int .u64 (wordL (L (setOf n x) i) (x % 64).toNat k : Nat), .bool true]) ∧ CacheIs w' b sb wb n m L (upS st (setOf n x) (touched m (st (setOf n x)) i)) ∧ Turned (CacheOwn sb wb n) w w'
theorem read_ok {w : World} {b sb : Nat} {wb : Nat → Nat} {n m : Nat} {L : Nat → Nat → CLine} {st : Nat → Nat} (h : CacheIs w b sb wb n m L st) (x : Int) (h0 : 0 ≤ x) (h1 : x < 18446744073709551616) (k : Nat) (hk : Size4 k) (ha : x % k = 0) (i : Nat) (hi : wayI m (L (setOf n x)) x = i) (hm : i < m) :
    Calls Try.prog 10 #[.pointer (some ⟨b, 0, none⟩), .int .u64 x, .int .i64 k] w (ReadAt w b sb wb n m L st x k i) := by
  have HP := Lib.hid (part_ok h x h0 h1 k hk ha i hi hm)
  have hs := setOf_lt h.hn x
  have hat : (x % 64).toNat + k ≤ 64 ∧ 0 < k ∧ k ≤ 8 := by rcases hk with rfl | rfl | rfl | rfl <;> omega
  have HW : Hid (∀ W, CacheIs W b sb wb n m L (upS st (setOf n x) (touched m (st (setOf n x)) i)) → Calls Try.prog 27 #[.slice (some ⟨wb (setOf n x), i * 67 + 3 + (x % 64).toNat, none⟩) k (64 - (x % 64).toNat)] W fun e w' => e = .returned (.int .u64 (wordL (L (setOf n x) i) (x % 64).toNat k : Nat)) ∧ W = w') := fun W hW => by
    have hb := part_isB (hW.ways _ hs) (fun j => hW.ok _ j) hm hat.1 hat.2.1
    have := bits_word_le _ k (64 - (x % 64).toNat) _ W hb (by omega) (by omega)
    refine this.mono fun e w' q => ⟨?_, q.2⟩
    rw [q.1]
    have e2 : wordN (fun i_1 => ((partL (L (setOf n x) i) (x % 64).toNat k).getD i_1 0).toNat) k = wordL (L (setOf n x) i) (x % 64).toNat k := by
      unfold wordL
      refine wordN_congr k fun q hq => ?_
      simp [partL, List.getD, hq]
    rw [← e2]
  clear h h0 h1 hk ha hi hm hs hat
  unfold PartAt at HP
  unfold ReadAt
  generalize setOf n x = s at *
  generalize (x % 64).toNat = at_ at *
  go_enter Try.func10, Try.ntmps10
  go_wp2_with fail
  refine HP.out.mono ?_
  rintro e w2 ⟨rfl, hc, ht⟩
  have HC := Lib.hid hc; have HT := Lib.hid ht
  clear hc ht
  go_wp2_with fail
  refine (HW.out w2 HC.out).mono ?_
  rintro e w3 ⟨rfl, rfl⟩
  go_wp2_with fail
  go_ret2
  exact ⟨rfl, HC.out, HT.out⟩
end Go.Proofs.Ytlcedcjcecahoaa
