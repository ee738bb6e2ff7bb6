/- Contracts of bits.Word, Bytes, Aligned. No condition. Slices of numbers and of bools that came in as arguments: what their cells hold, and how great they may be. No condition. Contracts of ram.New, Some, Write. No condition. Contracts of ram.New, Write, Word, Put. No condition. Contracts of ram.New, Word, Put. No condition. The soc as data: what its blocks hold. No condition. Contracts of the uart: New, Recv, take. No condition. Contracts of the uart: its registers. No condition. Contract of the uart's Sent. No condition. -/
import Derived.Test.YtefcdbpmpnmkjaaPack2
import Derived.StillTailTactics
import Derived.BigRegion
import Derived.Deep.RegionWith
import Derived.Deep.RegionHeld3
import Derived.Deep.QuietTactic
import Derived.BigQuiet
import Derived.Deep.LoopGhost
import Derived.Deep.DeepCutAuto
import Derived.Deep.DeepFit
import Derived.Deep.DeepMust
import Derived.Handy
import Derived.WalkKit
import Derived.OpenShut
import Derived.ChangeOld
import Derived.SizedLaws
import Derived.ChangeSlices
import Derived.Deep.Grids
import Derived.Deep.OwnRows
import Derived.Maps.OwnIn
import Derived.RangeFuncBox
import Derived.Deep.RegionLaw
section
set_option linter.unusedVariables false
set_option linter.unusedSimpArgs false
namespace Go.Proofs.Ytefcdbpmpnmkjaa
open Go.RowKit
/-- the number of which these are the bytes, the lowest first -/
def wordN (f : Nat → Nat) : Nat → Nat
  | 0 => 0
  | k + 1 => wordN f k + f k * 2 ^ (8 * k)
theorem wordN_lt {f : Nat → Nat} (h : ∀ i, f i < 256) : ∀ k, wordN f k < 2 ^ (8 * k)
  | 0 => by simp [wordN]
  | k + 1 => by
    have h1 := wordN_lt h k
    have h2 := h k
    have e : 2 ^ (8 * (k + 1)) = 256 * 2 ^ (8 * k) := by rw [show 8 * (k + 1) = 8 * k + 8 by omega, Nat.pow_add]; omega
    unfold wordN
    rw [e]
    have : f k * 2 ^ (8 * k) ≤ 255 * 2 ^ (8 * k) := Nat.mul_le_mul_right _ (by omega)
    omega
theorem wordN_congr {f g : Nat → Nat} : ∀ (k : Nat), (∀ i, i < k → f i = g i) → wordN f k = wordN g k
  | 0, _ => rfl
  | k + 1, h => by unfold wordN; rw [wordN_congr k (fun i hi => h i (by omega)), h k (by omega)]
theorem word_or {f : Nat → Nat} (h : ∀ i, f i < 256) {k : Nat} (hk : k < 8) : Value.int .u64 (bits .or .u64 (wordN f k : Nat) (IntKind.u64.wrap (IntKind.u64.wrap (f k : Int) * 2 ^ (8 * k)))) = .int .u64 (wordN f (k + 1) : Nat) := by
  have h1 := wordN_lt h k
  have h2 := wordN_lt h (k + 1)
  have h3 : (2 : Nat) ^ (8 * (k + 1)) ≤ 2 ^ 64 := Nat.pow_le_pow_right (by omega) (by omega)
  have e0 : IntKind.u64.wrap (f k : Int) = f k := by have := h k; rw [IntKind.wrap_u64]; omega
  have e : ((f k : Int) * 2 ^ (8 * k)) = ((f k * 2 ^ (8 * k) : Nat) : Int) := by rw [Int.natCast_mul, Int.natCast_pow]; rfl
  have e3 : wordN f (k + 1) = wordN f k + f k * 2 ^ (8 * k) := rfl
  have e4 : wordN f k + f k * 2 ^ (8 * k) = wordN f k ||| f k * 2 ^ (8 * k) := by rw [Nat.or_comm, Nat.mul_comm, ← Nat.two_pow_add_eq_or_of_lt h1, Nat.add_comm]
  rw [e0, e]
  rw [e3] at h2
  rw [e3, e4]
  rw [e4] at h2
  generalize f k * 2 ^ (8 * k) = A at *
  generalize wordN f k = B at *
  have hA : A < 18446744073709551616 := by omega
  have hB : B < 18446744073709551616 := by omega
  rw [IntKind.wrap_u64, Int.emod_eq_of_lt (by omega) (by omega), u64_or_nat _ _ hB hA]
set_option maxRecDepth 100000 in
set_option maxHeartbeats 2000000 in
theorem bits_word_le (a : Option Addr) (m c : Nat) (l : List Int) (w : World) (hb : IsB w a m l) (hm : (m : Int) ≤ 9223372036854775807) (h8 : (m : Int) ≤ 8) :
    Calls Try.prog 40 #[.slice a m c] w fun e w' => e = .returned (.int .u64 (wordN (fun i => (l.getD i 0).toNat) m : Nat)) ∧ w = w' := by
  have H := Lib.hid hb
  have H255 := Lib.hid (show ∀ i, (l.getD i 0).toNat < 256 from fun i => by
    by_cases hi : i < l.length
    · have := hb.bd (l.getD i 0) (by simp [List.getD, hi])
      omega
    · simp [List.getD, hi])
  clear hb
  generalize hf : (fun i => (l.getD i 0).toNat) = f
  have HF := Lib.hid hf
  have HLT := Lib.hid (show ∀ i, f i < 256 from fun i => by rw [← hf]; exact H255.out i)
  clear hf
  go_enter Try.func40, Try.ntmps40
  go_wp2_with fail
  go_loop [3, 8] (fun v i => ∃ k : Nat, (k : Int) ≤ m ∧ i = .int .i64 k ∧ v = .int .u64 (wordN f k : Nat)) (fun _ i => m - (intOf i).toNat)
  case atStart => exact ⟨0, by omega, rfl, rfl⟩
  case round =>
    obtain ⟨k, hk, rfl, rfl⟩ := hrel
    by_cases hlt : (k : Int) < m
    · have h1 : (k : Int) < m := by omega
      have h2 : (k : Int) < 8 := by omega
      clear hk
      obtain ⟨b, o, rfl, hc⟩ : ∃ b o, a = some ⟨b, o, none⟩ ∧ w.cell? ⟨b, o + k, none⟩ = some (.int .u8 (f k : Nat)) := by
        rcases H.out.cell with ⟨_, h0⟩ | ⟨b, o, rfl, h⟩
        · omega
        · refine ⟨b, o, rfl, (h k (by omega)).trans ?_⟩
          have : 0 ≤ l.getD k 0 := by
            by_cases hkl : k < l.length
            · have := H.out.bd (l.getD k 0) (by simp [List.getD, hkl])
              omega
            · simp [List.getD, hkl]
          rw [← HF.out]
          simp only
          rw [Int.toNat_of_nonneg this]
      have hor := word_or (k := k) HLT.out (by omega)
      have HO := Lib.hid hor
      clear hor
      go_wp2_with fail
      exact ⟨⟨k + 1, by omega, by rw [Int.natCast_succ], HO.out⟩, by simp [intOf]; omega⟩
    · obtain rfl : k = m := by omega
      go_wp2_with fail
      go_ret
      exact ⟨rfl, rfl⟩
set_option maxRecDepth 100000 in
set_option maxHeartbeats 2000000 in
theorem bits_word_gt (a : Option Addr) (m c : Nat) (l : List Int) (w : World) (hb : IsB w a m l) (hm : (m : Int) ≤ 9223372036854775807) (h8 : (8 : Int) < m) :
    Calls Try.prog 40 #[.slice a m c] w fun e w' => e = .returned (.int .u64 (wordN (fun i => (l.getD i 0).toNat) 8 : Nat)) ∧ w = w' := by
  have H := Lib.hid hb
  have H255 := Lib.hid (show ∀ i, (l.getD i 0).toNat < 256 from fun i => by
    by_cases hi : i < l.length
    · have := hb.bd (l.getD i 0) (by simp [List.getD, hi])
      omega
    · simp [List.getD, hi])
  clear hb
  generalize hf : (fun i => (l.getD i 0).toNat) = f
  have HF := Lib.hid hf
  have HLT := Lib.hid (show ∀ i, f i < 256 from fun i => by rw [← hf]; exact H255.out i)
  clear hf
  go_enter Try.func40, Try.ntmps40
  go_wp2_with fail
  go_loop [3, 8] (fun v i => ∃ k : Nat, (k : Int) ≤ 8 ∧ i = .int .i64 k ∧ v = .int .u64 (wordN f k : Nat)) (fun _ i => 8 - (intOf i).toNat)
  case atStart => exact ⟨0, by omega, rfl, rfl⟩
  case round =>
    obtain ⟨k, hk, rfl, rfl⟩ := hrel
    by_cases hlt : (k : Int) < 8
    · have h1 : (k : Int) < m := by omega
      have h2 : (k : Int) < 8 := by omega
      clear hk
      obtain ⟨b, o, rfl, hc⟩ : ∃ b o, a = some ⟨b, o, none⟩ ∧ w.cell? ⟨b, o + k, none⟩ = some (.int .u8 (f k : Nat)) := by
        rcases H.out.cell with ⟨_, h0⟩ | ⟨b, o, rfl, h⟩
        · omega
        · refine ⟨b, o, rfl, (h k (by omega)).trans ?_⟩
          have : 0 ≤ l.getD k 0 := by
            by_cases hkl : k < l.length
            · have := H.out.bd (l.getD k 0) (by simp [List.getD, hkl])
              omega
            · simp [List.getD, hkl]
          rw [← HF.out]
          simp only
          rw [Int.toNat_of_nonneg this]
      have hor := word_or (k := k) HLT.out (by omega)
      have HO := Lib.hid hor
      clear hor
      go_wp2_with fail
      exact ⟨⟨k + 1, by omega, by rw [Int.natCast_succ], HO.out⟩, by simp [intOf]; omega⟩
    · obtain rfl : k = 8 := by omega
      go_wp2_with fail
      go_ret
      exact ⟨rfl, rfl⟩
theorem bits_word (a : Option Addr) (m c : Nat) (l : List Int) (w : World) (hb : IsB w a m l) (hm : (m : Int) ≤ 9223372036854775807) :
    Calls Try.prog 40 #[.slice a m c] w fun e w' => e = .returned (.int .u64 (wordN (fun i => (l.getD i 0).toNat) (min m 8) : Nat)) ∧ w = w' := by
  by_cases h8 : (m : Int) ≤ 8
  · rw [show min m 8 = m by omega]; exact bits_word_le a m c l w hb hm h8
  · rw [show min m 8 = 8 by omega]; exact bits_word_gt a m c l w hb hm (by omega)
set_option maxRecDepth 100000 in
set_option maxHeartbeats 1000000 in
theorem bits_aligned (x : Int) (x0 : 0 ≤ x) (n : Nat) (h1 : 1 ≤ n) (h2 : (n : Int) ≤ 9223372036854775807) (w : World) :
    Calls Try.prog 56 #[.int .u64 x, .int .i64 n] w fun e w' => e = .returned (.bool (decide (x % n = 0))) ∧ w = w' := by
  have h3 : (1 : Int) ≤ n := by omega
  have hw : IntKind.u64.wrap (n : Int) = n := by rw [IntKind.wrap_u64]; omega
  go_enter Try.func56, Try.ntmps56
  go_wp2
  go_ret
  exact ⟨ret_bool (by first | rfl | simp), rfl⟩
/-- the bytes of a number, the lowest first -/
def numBytes (v k : Nat) : List Int := (List.range k).map fun i => ((v / 2 ^ (8 * i) % 256 : Nat) : Int)
theorem numBytes_snoc (v k : Nat) : numBytes v (k + 1) = numBytes v k ++ [((v / 2 ^ (8 * k) % 256 : Nat) : Int)] := by simp [numBytes, List.range_succ]
theorem numBytes_len (v k : Nat) : (numBytes v k).length = k := by simp [numBytes]
theorem numBytes_bd (v k : Nat) : ∀ x ∈ numBytes v k, 0 ≤ x ∧ x ≤ 255 := by
  intro x hx
  simp only [numBytes, List.mem_map] at hx
  obtain ⟨i, _, rfl⟩ := hx
  omega
/-- those bytes in a slice of their own -/
def OwnSlice (w : World) (n : Nat) (l : List Int) (e : Ending) (w' : World) : Prop := ∃ v, e = .returned v ∧ w'.ownsRow w.heap.size 5 1 v n (l.map (Value.int .u8)) ∧ Below w.heap.size w w'
set_option maxRecDepth 100000 in
set_option maxHeartbeats 2000000 in
theorem bits_bytes (v : Nat) (n : Nat) (hn : (n : Int) ≤ 8) (w : World) :
    Calls Try.prog 61 #[.int .u64 v, .int .i64 n] w (OwnSlice w n (numBytes v n)) := by
  have HB0 := Lib.hid (numBytes_snoc v)
  have HL := Lib.hid (show numBytes v 0 = [] from rfl)
  go_enter Try.func61, Try.ntmps61
  go_wp2_with fail
  go_loopw [5, 10] (fun s i wr => ∃ j : Nat, (j : Int) ≤ n ∧ i = .int .i64 j ∧ wr.ownsRow w.heap.size 5 1 s j ((numBytes v j).map (Value.int .u8)) ∧ Below w.heap.size w wr) (fun _ i _ => n - (intOf i).toNat)
  case atStart => exact ⟨0, by omega, rfl, by rw [HL.out]; exact World.ownsRow_nil _ _ _ _, Below.refl _ _⟩
  case round =>
    obtain ⟨j, hj, rfl, hown, hb⟩ := hrel
    have HW := Lib.hid hown
    have HBB := Lib.hid hb
    clear hown hb
    by_cases hlt : (j : Int) < n
    · clear hj
      have hj8 : (j : Int) < 8 := by omega
      have hb8 : IntKind.u8.wrap ((v : Int) / 2 ^ (8 * j)) = ((v / 2 ^ (8 * j) % 256 : Nat) : Int) := by
        rw [IntKind.wrap_u8, Int.natCast_emod, Int.natCast_ediv, Int.natCast_pow]; rfl
      have hz : Hid (w.heap.size ≤ (wr.alloc (.cells #[Value.int .u8 (v / 2 ^ (8 * j) % 256 : Nat)] 5)).heap.size) := by have := HBB.out.size; show _ ≤ _; simp; omega
      have hone : Hid (∀ u ∈ [Value.int .u8 (v / 2 ^ (8 * j) % 256 : Nat)], u.oneCell' = true) := by intro u hu; simp at hu; subst hu; rfl
      go_wp2_with (at_builtin; refine wpList_app rfl _ _ 37 rfl w.heap.size 5 (.int .u8 0) 1 Try.underlying37 A_info5 rfl _ j _ rfl (HW.out.alloc _) _ _ _ [Value.int .u8 (v / 2 ^ (8 * j) % 256 : Nat)] rfl (src_one wr _ 5) hone.out (by omega) (by unfold maxLen; omega) hz.out ?_; intro v' w2 hown hg _; have HW2 := Lib.hid hown; have HG := Lib.hid hg; clear hown hg)
      all_goals
        refine ⟨⟨j + 1, by omega, by rw [Int.natCast_succ], ?_, ?_⟩, by simp [intOf]; omega⟩
        · rw [HB0.out, List.map_append]; exact HW2.out
        · exact own_base (HW.out.alloc _) HG.out (HBB.out.alloc HBB.out.size _) hz.out (Nat.le_refl _)
    · obtain rfl : j = n := by omega
      go_wp2
      go_ret
      exact ⟨_, rfl, HW.out, HBB.out⟩
end Go.Proofs.Ytefcdbpmpnmkjaa
end
section
set_option linter.unusedVariables false
namespace Go.Proofs.Ytefcdbpmpnmkjaa
open Go.ChangeShapes Go.WideShapes Go.RowKit Go.Deep

/-- a slice's cells: so many values, in a block that is there -/
def IsRow (w : World) (a : Option Addr) (len : Nat) (V : Nat → Value) : Prop := 0 < len → ∃ b o, a = some ⟨b, o, none⟩ ∧ b < w.heap.size ∧ ∀ i, i < len → w.cell? ⟨b, o + i, none⟩ = some (V i)
theorem IsRow.le {w : World} {a : Option Addr} {len len' : Nat} {V : Nat → Value} (h : IsRow w a len V) (hl : len' ≤ len) : IsRow w a len' V := by
  intro h0
  obtain ⟨b, o, h1, h2, h3⟩ := h (by omega)
  exact ⟨b, o, h1, h2, fun i hi => h3 i (by omega)⟩
/-- what a slice that came in is: its length and capacity, and its cells up to the capacity -/
structure ArgRow (w : World) (a : Option Addr) (len cap : Nat) (V : Nat → Value) : Prop where
  le : len ≤ cap
  max : cap ≤ 9223372036854775807
  nil : a = none → cap = 0
  form : a = none ∨ ∃ b o, a = some ⟨b, o, none⟩ ∧ b < w.heap.size
  row : IsRow w a cap V
theorem slice_form {P : Program} {W : World} {base : Nat} {t e : TypeId} (ht : P.underlying t = some (.slice e)) {a : Option Addr} {len cap : Nat} (h : Value.okWide P W .any base t (.slice a len cap)) : a = none ∨ ∃ b o, a = some ⟨b, o, none⟩ ∧ b < W.heap.size := by
  simp only [Value.okWide, ht, Cell.okWide] at h
  rcases a with _ | ⟨b, o, s⟩
  · exact .inl rfl
  · right
    simp only [Cell.ok, ht] at h
    obtain ⟨_, _, _, hs, r, c, hsh, _⟩ := h
    simp only at hs
    subst hs
    refine ⟨b, o, rfl, ?_⟩
    unfold World.shape? at hsh
    split at hsh
    · rename_i hh
      exact (Array.getElem?_eq_some_iff.1 hh).1
    · cases hsh
/-- how many elements a datum has -/
def DatumHas {H : Type} (d : DataW H) (cap : Nat) : Prop := (d = .nil ∧ cap = 0) ∨ ∃ elems spare, d = .slice elems spare ∧ elems.length + spare.length = cap
theorem row_of_cells {w : World} {a : Addr} {n : Nat} {V : Nat → Value} (h : ∀ i, i < n → w.cell? (a.add i) = some (V i)) : IsRow w (some a) n V := by
  intro hn
  obtain ⟨b, o, s⟩ := a
  have h0 := h 0 hn
  have hs : s = none := by
    unfold Addr.add at h0
    simp only [if_true] at h0
    unfold World.cell? at h0
    split at h0
    · cases s <;> simp_all
    · cases h0
  subst hs
  have hadd : ∀ i, (⟨b, o, none⟩ : Addr).add i = ⟨b, o + i, none⟩ := fun i => by unfold Addr.add; split <;> simp_all
  refine ⟨b, o, rfl, ?_, fun i hi => by rw [← hadd]; exact h i hi⟩
  exact World.block_lt_of_cell? w _ ((hadd 0) ▸ h0)
section
variable {H : Type} {enc : TypeId × Value → H} {P : Program} {W : World}
theorem arg_ints {t e : TypeId} {k : IntKind} (ht : P.underlying t = some (.slice e)) (he : P.underlying e = some (.int k)) (hc : P.cellsOf e = 1) {a : Option Addr} {len cap : Nat} {d : DataW H} {p : List MemPlace} {b0 : Nat} (hv : Value.okWide P W .any b0 t (.slice a len cap))
    (h : DataW.Trod enc P W 0 (fun _ => true) true t (.slice a len cap) d p) :
    ∃ z : Nat → Int, (∀ i, (Lit.int k (z i)).wf = true) ∧ ArgRow W a len cap (fun i => .int k (z i)) ∧ DatumHas d cap := by
  have hform := slice_form ht hv
  obtain ⟨fuel, hf⟩ := h
  have hw0 : (Lit.int k 0).wf = true := by cases k <;> decide
  rcases open_ints ht he hc hf with ⟨hcs, hx⟩ | ⟨ad, len', cap', zs, hcs, _, hl, hm, hz, hx, hcell, hwz⟩
  · simp [Value.cells] at hcs
    obtain ⟨rfl, rfl, rfl⟩ := hcs
    simp only [Prod.mk.injEq] at hx
    exact ⟨fun _ => 0, fun _ => hw0, ⟨Nat.le_refl _, by omega, fun _ => rfl, hform, fun h => absurd h (by omega)⟩, .inl ⟨hx.1, rfl⟩⟩
  · simp [Value.cells] at hcs
    obtain ⟨rfl, rfl, rfl⟩ := hcs
    simp only [Prod.mk.injEq] at hx
    simp only [if_true] at hz
    refine ⟨fun i => zs.getD i 0, fun i => ?_, ⟨hl, hm, (fun h => nomatch h), hform, row_of_cells fun i hi => hcell i (by omega)⟩, .inr ⟨_, _, hx.1, ?_⟩⟩
    · by_cases hi : i < zs.length
      · have e : zs.getD i 0 = zs[i] := by simp [List.getD, hi]
        simp only [e]; exact hwz _ (List.getElem_mem hi)
      · have e : zs.getD i 0 = 0 := by simp [List.getD, hi]
        simp only [e]; exact hw0
    · simp [lits]; omega
theorem arg_bools {t e : TypeId} (ht : P.underlying t = some (.slice e)) (he : P.underlying e = some .bool) (hc : P.cellsOf e = 1) {a : Option Addr} {len cap : Nat} {d : DataW H} {p : List MemPlace} {b0 : Nat} (hv : Value.okWide P W .any b0 t (.slice a len cap))
    (h : DataW.Trod enc P W 0 (fun _ => true) true t (.slice a len cap) d p) :
    ∃ z : Nat → Bool, ArgRow W a len cap (fun i => .bool (z i)) ∧ DatumHas d cap := by
  have hform := slice_form ht hv
  obtain ⟨fuel, hf⟩ := h
  rcases open_bools ht he hc hf with ⟨hcs, hx⟩ | ⟨ad, len', cap', z, hcs, _, hl, hm, hx, hcell⟩
  · simp [Value.cells] at hcs
    obtain ⟨rfl, rfl, rfl⟩ := hcs
    simp only [Prod.mk.injEq] at hx
    exact ⟨fun _ => false, ⟨Nat.le_refl _, by omega, fun _ => rfl, hform, fun h => absurd h (by omega)⟩, .inl ⟨hx.1, rfl⟩⟩
  · simp [Value.cells] at hcs
    obtain ⟨rfl, rfl, rfl⟩ := hcs
    simp only [Prod.mk.injEq] at hx
    refine ⟨z, ⟨hl, hm, (fun h => nomatch h), hform, row_of_cells fun i hi => hcell i hi⟩, .inr ⟨_, _, hx.1, ?_⟩⟩
    simp; omega
/-- the form's reach -/
theorem arg_size {ts : List TypeId} {ds : List (DataW H)} (h : (DataW.weightsEach P ts ds).all (· ≤ reachBytes) = true) {j : Nat} {t e : TypeId} {d : DataW H} {cap : Nat} (ht : ts[j]? = some t) (hd : ds[j]? = some d) (hu : P.underlying t = some (.slice e)) (hh : DatumHas d cap) (b : Nat) (hb : P.bytesOf e = b) :
    cap * b ≤ 140737488351232 := by
  rcases hh with ⟨rfl, rfl⟩ | ⟨el, sp, rfl, rfl⟩
  · omega
  · have := sized_slice h ht hd hu
    rw [hb] at this
    exact this
end
end Go.Proofs.Ytefcdbpmpnmkjaa
end
section
set_option linter.unusedVariables false
set_option linter.unusedSimpArgs false
namespace Go.Proofs.Ytefcdbpmpnmkjaa
open Go.RowKit
theorem RamAt.to {w : World} {b n : Nat} {ct : Nat → Nat} {S : Nat → Prop} (h : RamAt w b n ct S) : RamTo w w b n ct S := ⟨S, h, Turned.refl _ _, fun _ => .inl⟩
/-- from one to the next: the first has turned to wr, owning what it owned and new blocks -/
theorem RamTo.step {w wr : World} {b n : Nat} {ct : Nat → Nat} {S : Nat → Prop} (h : RamTo w wr b n ct S) : ∃ S', RamAt wr b n ct S' ∧ Turned S w wr ∧ (∀ g, S' g → S g ∨ w.heap.size ≤ g) ∧ (∀ w' ct', RamTo wr w' b n ct' S' → RamTo w w' b n ct' S) := by
  obtain ⟨S', h1, h2, h3⟩ := h
  refine ⟨S', h1, h2, h3, ?_⟩
  rintro w' ct' ⟨S'', k1, k2, k3⟩
  refine ⟨S'', k1, h2.trans k2 h3, fun g hg => ?_⟩
  rcases k3 g hg with h | h
  · exact h3 g h
  · have := h2.size; right; omega
theorem RamTo.below {w w1 w2 : World} {b n : Nat} {ct : Nat → Nat} {S : Nat → Prop} (h : RamTo w w1 b n ct S) (hb : Below w1.heap.size w1 w2) : RamTo w w2 b n ct S := by
  obtain ⟨S', h1, h2, h3, h4⟩ := h.step
  exact h4 w2 ct ⟨S', h1.below hb, Turned.of_below hb _, fun _ => .inl⟩
theorem RamTo.from_below {w w1 w2 : World} {b n : Nat} {ct : Nat → Nat} {S : Nat → Prop} (hb : Below w.heap.size w w1) (h : RamTo w1 w2 b n ct S) : RamTo w w2 b n ct S := by
  obtain ⟨S', h1, h2, h3⟩ := h
  refine ⟨S', h1, (Turned.of_below hb (fun _ => False)).mono (fun _ e => e.elim) |>.trans h2 (fun _ => .inl), fun g hg => ?_⟩
  rcases h3 g hg with h | h
  · exact .inl h
  · have := hb.size; right; omega
/-- a slice's cells lie in none of these blocks -/
def Apart (S : Nat → Prop) (a : Option Addr) : Prop := ∀ b o s, a = some ⟨b, o, s⟩ → ¬ S b
theorem isB_turned {w w' : World} {S : Nat → Prop} {a : Option Addr} {n : Nat} {l : List Int} (h : IsB w a n l) (ht : Turned S w w') (ha : Apart S a) : IsB w' a n l := by
  obtain ⟨h1, h2, h3⟩ := h
  refine ⟨h1, h2, h3.imp id ?_⟩
  rintro ⟨b, o, rfl, hc⟩
  refine ⟨b, o, rfl, fun i hi => ?_⟩
  have hlt : b < w.heap.size := World.block_lt_of_cell? w _ (hc i hi)
  rw [← hc i hi]
  unfold World.cell?
  simp only [ht.block b hlt (ha b o none rfl)]
theorem isRow_turned {w w' : World} {S : Nat → Prop} {a : Option Addr} {n : Nat} {V : Nat → Value} (h : IsRow w a n V) (ht : Turned S w w') (ha : Apart S a) : IsRow w' a n V := by
  intro hn
  obtain ⟨b, o, rfl, hlt, hc⟩ := h hn
  refine ⟨b, o, rfl, Nat.lt_of_lt_of_le hlt ht.size, fun i hi => ?_⟩
  rw [← hc i hi]
  unfold World.cell?
  simp only [ht.block b hlt (ha b o none rfl)]
/-- of the bytes l from off on the first k put in, where st says so -/
def putTo (ct : Nat → Nat) (off : Nat) (l : Nat → Nat) (st : Nat → Bool) : Nat → Nat → Nat
  | 0 => ct
  | k + 1 => if st k then updB (putTo ct off l st k) (off + k) (l k) else putTo ct off l st k
theorem putTo_at (ct : Nat → Nat) (off : Nat) (l : Nat → Nat) (st : Nat → Bool) (i : Nat) : ∀ k, putTo ct off l st k i = if off ≤ i ∧ i < off + k ∧ st (i - off) = true then l (i - off) else ct i
  | 0 => by rw [if_neg (by omega)]; rfl
  | k + 1 => by
    unfold putTo
    have ih := putTo_at ct off l st i k
    by_cases hs : st k = true
    · rw [if_pos hs]
      unfold updB
      by_cases hi : i = off + k
      · subst hi
        rw [if_pos rfl, Nat.add_sub_cancel_left, if_pos ⟨by omega, by omega, hs⟩]
      · rw [if_neg hi, ih]
        have : (off ≤ i ∧ i < off + k ∧ st (i - off) = true) ↔ (off ≤ i ∧ i < off + (k + 1) ∧ st (i - off) = true) := ⟨fun h => ⟨h.1, by omega, h.2.2⟩, fun h => ⟨h.1, by omega, h.2.2⟩⟩
        simp only [this]
    · rw [if_neg hs, ih]
      by_cases hi : i = off + k
      · subst hi
        rw [if_neg (by omega), if_neg]
        rw [Nat.add_sub_cancel_left]
        exact fun h => hs h.2.2
      · have : (off ≤ i ∧ i < off + k ∧ st (i - off) = true) ↔ (off ≤ i ∧ i < off + (k + 1) ∧ st (i - off) = true) := ⟨fun h => ⟨h.1, by omega, h.2.2⟩, fun h => ⟨h.1, by omega, h.2.2⟩⟩
        simp only [this]
/-- a number of an error; the world is not turned but for new blocks -/
def ErrNo (w : World) (k : Int) (e : Ending) (w' : World) : Prop := e = .returned (.int .i64 k) ∧ Below w.heap.size w w'
set_option maxRecDepth 100000 in
set_option maxHeartbeats 1000000 in
theorem ram_some_nil (x : Int) (a a2 : Option Addr) (m c m2 c2 : Nat) (w : World) : Calls Try.prog 43 #[.pointer none, .int .u64 x, .slice a m c, .slice a2 m2 c2] w (ErrNo w 2) := by
  have hB := Lib.hid (Below.refl w.heap.size w)
  go_enter Try.func43, Try.ntmps43
  go_wp2
  go_ret
  exact ⟨rfl, hB.out⟩
set_option maxRecDepth 100000 in
set_option maxHeartbeats 1000000 in
theorem ram_some_bus {w : World} {b n : Nat} {ct : Nat → Nat} {S : Nat → Prop} (h : RamAt w b n ct S) (x : Int) (x0 : 0 ≤ x) (x1 : x < 18446744073709551616) (a a2 : Option Addr) (m c m2 c2 : Nat) (hm : (m : Int) < 9223372036854775808) (ha : ramAll n x m = false) :
    Calls Try.prog 43 #[.pointer (some ⟨b, 0, none⟩), .int .u64 x, .slice a m c, .slice a2 m2 c2] w (ErrNo w 6) := by
  have HA := Lib.hid (ram_all_at h x x0 x1 m (by omega) hm)
  rw [ha] at HA
  clear h ha x0 x1
  go_enter Try.func43, Try.ntmps43
  go_wp2_with fail
  refine HA.out.mono ?_
  rintro e w1 ⟨rfl, hb⟩
  have HB := Lib.hid hb
  clear hb
  go_wp2
  go_ret
  exact ⟨rfl, HB.out⟩
/-- the strobe of index i -/
def stAt (m2 : Nat) (z : Nat → Bool) (i : Nat) : Bool := decide (i < m2) && z i
set_option maxRecDepth 100000 in
set_option maxHeartbeats 4000000 in
theorem ram_some_ok {w : World} {b n : Nat} {ct : Nat → Nat} {S : Nat → Prop} (h : RamAt w b n ct S) (x : Int) (x0 : 0 ≤ x) (x1 : x < 18446744073709551616) (a a2 : Option Addr) (m c m2 c2 : Nat) (ha : ramAll n x m = true)
    (l : List Int) (hl : IsB w a m l) (al : Apart S a) (z : Nat → Bool) (hz : IsRow w a2 m2 (fun i => .bool (z i))) (az : Apart S a2) (hm2 : (m2 : Int) ≤ 9223372036854775807) :
    Calls Try.prog 43 #[.pointer (some ⟨b, 0, none⟩), .int .u64 x, .slice a m c, .slice a2 m2 c2] w fun e w' => e = .returned (.int .i64 0) ∧ RamTo w w' b n (putTo ct (x - 2147483648).toNat (fun i => (l.getD i 0).toNat) (stAt m2 z) m) S := by
  have hlo := h.lo
  have hx : m = 0 ∨ (2147483648 ≤ x ∧ x - 2147483648 + m ≤ n * 4096) := by
    simp only [ramAll, isRam, Bool.or_eq_true, Bool.and_eq_true, decide_eq_true_eq] at ha
    omega
  have hk : (m : Int) ≤ 1048576 := by omega
  have HA := Lib.hid (ram_all_at h x x0 x1 m (by omega) (by omega))
  rw [ha] at HA
  have H := Lib.hid h.to
  have HX := Lib.hid hx
  have hn : (n : Int) ≤ 256 := by omega
  have HL := Lib.hid hl; have HAL := Lib.hid al; have HZ := Lib.hid hz; have HAZ := Lib.hid az
  have HF := Lib.hid (show ∀ i, i < m → (∃ b o, a = some ⟨b, o, none⟩) ∧ l.getD i 0 = ((l.getD i 0).toNat : Int) ∧ (l.getD i 0).toNat < 256 from fun i hi => by
    have h1 := hl.bd (l.getD i 0) (by have := hl.hlen; simp [List.getD, this, hi])
    refine ⟨?_, by omega, by omega⟩
    rcases hl.cell with ⟨_, h0⟩ | ⟨b, o, h, _⟩
    · omega
    · exact ⟨b, o, h⟩)
  clear h ha hx hlo hl al hz az
  generalize hO : (x - 2147483648).toNat = O at *
  have HO := Lib.hid hO
  clear hO
  have HS := Lib.hid (show ∀ k, putTo ct O (fun i => (l.getD i 0).toNat) (stAt m2 z) (k + 1) = if stAt m2 z k then updB (putTo ct O (fun i => (l.getD i 0).toNat) (stAt m2 z) k) (O + k) ((l.getD k 0).toNat) else putTo ct O (fun i => (l.getD i 0).toNat) (stAt m2 z) k from fun k => rfl)
  have HP0 := Lib.hid (show putTo ct O (fun i => (l.getD i 0).toNat) (stAt m2 z) 0 = ct from rfl)
  generalize putTo ct O (fun i => (l.getD i 0).toNat) (stAt m2 z) = F at *
  go_enter Try.func43, Try.ntmps43
  go_wp2_with fail
  refine HA.out.mono ?_
  rintro e w1 ⟨rfl, hb⟩
  have H1 : Hid (RamTo w w1 b n ct S) := H.out.below hb
  clear hb
  go_wp2_with fail
  go_loopw [23] (fun i wr => ∃ k : Nat, (k : Int) ≤ m ∧ i = .int .i64 k ∧ RamTo w wr b n (F k) S) (fun i _ => m - (intOf i).toNat)
  case atStart => exact ⟨0, by omega, rfl, by rw [HP0.out]; exact H1.out⟩
  case round =>
    clear H1
    obtain ⟨k, hk, rfl, hr⟩ := hrel
    have HR := Lib.hid hr
    clear hr
    by_cases hlt : (k : Int) < m
    · clear hk
      obtain ⟨⟨bb, oo, rfl⟩, hq, h255⟩ := HF.out k (by omega)
      obtain ⟨S', hat, ht, hsub, hnext⟩ := HR.out.step
      have hL2 := isB_turned HL.out ht HAL.out
      have hZ2 := isRow_turned HZ.out ht HAZ.out
      have hc : wr.cell? ⟨bb, oo + k, none⟩ = some (.int .u8 ((l.getD k 0).toNat : Nat)) := by
        rcases hL2.cell with ⟨h0, _⟩ | ⟨b', o', h1, h2⟩
        · cases h0
        · injection h1 with h1
          cases h1
          rw [h2 k (by omega), ← hq]
      have HN := Lib.hid hnext
      have HAT := Lib.hid hat
      have HXX := HX.out
      have hp : IntKind.u64.wrap (x - 2147483648) = x - 2147483648 := by rw [IntKind.wrap_u64]; omega
      have g0 : 0 ≤ x - 2147483648 := by omega
      have g1 : x - 2147483648 + k < 1048576 := by omega
      have HV := Lib.hid h255
      clear HXX hq h255 hat ht hsub hL2 hnext
      generalize hVV : (l.getD k 0).toNat = V at *
      have HVV := Lib.hid hVV
      clear hVV
      have fin_no : stAt m2 z k = false → Hid (RamTo w wr b n (F (k + 1)) S) := fun hs => by
        show RamTo _ _ _ _ _ _
        rw [HS.out k, hs]
        exact HR.out
      by_cases hk2 : (k : Int) < m2
      · obtain ⟨b2, o2, rfl, _, hc2⟩ := hZ2 (by omega)
        have hc3 : wr.cell? ⟨b2, o2 + k, none⟩ = some (.bool (z k)) := hc2 k (by omega)
        clear hc2 hZ2
        cases hz : z k with
        | false =>
          rw [hz] at hc3
          have FN := fin_no (by unfold stAt; simp [hz])
          clear fin_no hz
          go_wp2_with fail
          exact ⟨⟨k + 1, by omega, by rw [Int.natCast_succ], FN.out⟩, by simp [intOf]; omega⟩
        | true =>
          rw [hz] at hc3
          have FY : Hid (∀ w', RamTo wr w' b n (updB (F k) (O + k) V) S' → RamTo w w' b n (F (k + 1)) S) := fun w' hh => by
            rw [HS.out k, show stAt m2 z k = true by unfold stAt; simp [hz]; omega, if_pos rfl, HVV.out]
            exact HN.out _ _ hh
          clear fin_no hz
          go_wp2_with fail
          refine (ram_set_at HAT.out _ (by omega) (by omega) V HV.out).mono ?_
          rintro e w2 ⟨rfl, hh⟩
          have HO2 : (x - 2147483648 + (k : Int)).toNat = O + k := by have := HO.out; omega
          rw [HO2] at hh
          have FN := Lib.hid (FY.out _ hh)
          clear hh HO2
          go_wp2_with fail
          exact ⟨⟨k + 1, by omega, by rw [Int.natCast_succ], FN.out⟩, by simp [intOf]; omega⟩
      · have FN := fin_no (by unfold stAt; simp; omega)
        clear fin_no hZ2
        go_wp2_with fail
        exact ⟨⟨k + 1, by omega, by rw [Int.natCast_succ], FN.out⟩, by simp [intOf]; omega⟩
    · obtain rfl : k = m := by omega
      go_wp2_with fail
      go_ret
      exact ⟨rfl, HR.out⟩
end Go.Proofs.Ytefcdbpmpnmkjaa
end
section
set_option linter.unusedVariables false
set_option linter.unusedSimpArgs false
namespace Go.Proofs.Ytefcdbpmpnmkjaa
open Go.RowKit
set_option maxRecDepth 100000 in
set_option maxHeartbeats 4000000 in
theorem ram_write_ok {w : World} {b n : Nat} {ct : Nat → Nat} {S : Nat → Prop} (h : RamAt w b n ct S) (x : Int) (x0 : 0 ≤ x) (x1 : x < 18446744073709551616) (a : Option Addr) (m c : Nat) (ha : ramAll n x m = true)
    (l : List Int) (hl : IsB w a m l) (al : Apart S a) :
    Calls Try.prog 55 #[.pointer (some ⟨b, 0, none⟩), .int .u64 x, .slice a m c] w fun e w' => e = .returned (.int .i64 0) ∧ RamTo w w' b n (putTo ct (x - 2147483648).toNat (fun i => (l.getD i 0).toNat) (fun _ => true) m) S := by
  have hlo := h.lo
  have hk : (m : Int) ≤ 1048576 := by
    simp only [ramAll, isRam, Bool.or_eq_true, Bool.and_eq_true, decide_eq_true_eq] at ha
    omega
  have HK := Lib.hid (show ∀ i, i < m → stAt m (fun _ => true) i = (fun _ => true) i from fun i hi => by simp [stAt, hi])
  have H := Lib.hid h
  have HA := Lib.hid ha
  have HL := Lib.hid hl
  have HAL := Lib.hid al
  have HLT := Lib.hid (fun g (hg : S g) => h.lt hg)
  clear h ha hl al hlo
  have hmk : ∀ wq, (Instr.makeSlice 38 (.int .i64 (m : Int)) (.int .i64 (m : Int))).run Try.prog wq = .ok (.slice (some ⟨wq.heap.size, 0, none⟩) m m) (wq.alloc (.cells (madeCells #[.bool false] m) 4)) := fun wq => run_make_row' (P := Try.prog) 38 4 (.bool false) 1 Try.underlying38 A_info4 rfl .i64 .i64 m (by omega) (by omega) wq
  go_enter Try.func55, Try.ntmps55
  go_wp2_with fail
  clear hmk
  go_loopw [14] (fun i wr => ∃ k : Nat, (k : Int) ≤ m ∧ i = .int .i64 k ∧ wr.rowIs w.heap.size 4 m (fun j => .bool (decide (j < k))) ∧ Below w.heap.size w wr) (fun i _ => m - (intOf i).toNat)
  case atStart => exact ⟨0, by omega, rfl, (World.rowIs_made w (.bool false) m 4).congr (fun i _ => by simp), (Below.refl _ _).alloc (Nat.le_refl _) _⟩
  case round =>
    obtain ⟨k, hk2, rfl, hr, hb⟩ := hrel
    have HB := Lib.hid hb
    clear hb
    by_cases hlt : (k : Int) < m
    · have hc := hr.cell (i := k) (by omega)
      have hf := hr.frozen k
      simp only [Nat.lt_irrefl, decide_false] at hc
      have HS : Hid ((wr.setCell ⟨w.heap.size, k, none⟩ (.bool true)).rowIs w.heap.size 4 m (fun j => .bool (decide (j < k + 1)))) := (hr.set k (.bool true)).congr fun i _ => by
        by_cases hi : i = k
        · subst hi; simp
        · rw [if_neg hi]
          have : (i < k) ↔ (i < k + 1) := by omega
          simp only [this]
      clear hr hk2
      go_wp2_with fail
      exact ⟨⟨k + 1, by omega, by rw [Int.natCast_succ], HS.out, HB.out.setCell (Nat.le_refl _) _⟩, by simp [intOf]; omega⟩
    · obtain rfl : k = m := by omega
      have HR := Lib.hid hr
      have HAT := Lib.hid (H.out.below HB.out)
      have HL2 := Lib.hid (isB_turned HL.out (Turned.of_below HB.out S) HAL.out)
      have HRW : Hid (IsRow wr (some ⟨w.heap.size, 0, none⟩) k (fun i => .bool ((fun _ => true) i))) := by
        intro _
        refine ⟨w.heap.size, 0, rfl, HR.out.lt, fun i hi => ?_⟩
        rw [Nat.zero_add, HR.out.cell hi]
        simp [hi]
      have HAP : Hid (Apart S (some ⟨w.heap.size, 0, none⟩)) := by
        rintro b' o s he hS
        injection he with he
        injection he with he
        have := HLT.out b' hS
        omega
      clear hr hk2 HR
      go_wp2_with fail
      refine (ram_some_ok HAT.out x x0 x1 a _ k c k k HA.out l HL2.out HAL.out (fun _ => true) HRW.out HAP.out (by omega)).mono ?_
      rintro e w2 ⟨rfl, hh⟩
      have HF := Lib.hid (hh.from_below HB.out)
      clear hh
      go_wp2_with fail
      go_ret
      refine ⟨rfl, ?_⟩
      have e1 : putTo ct (x - 2147483648).toNat (fun i => (l.getD i 0).toNat) (fun _ => true) k = putTo ct (x - 2147483648).toNat (fun i => (l.getD i 0).toNat) (stAt k fun _ => true) k := by
        funext i
        rw [putTo_at, putTo_at]
        by_cases hi : (x - 2147483648).toNat ≤ i ∧ i < (x - 2147483648).toNat + k
        · rw [HK.out _ (by omega)]
        · rw [if_neg (fun h => hi ⟨h.1, h.2.1⟩), if_neg (fun h => hi ⟨h.1, h.2.1⟩)]
      rw [e1]
      exact HF.out
set_option maxRecDepth 100000 in
set_option maxHeartbeats 4000000 in
theorem ram_write_nil  (x : Int) (a : Option Addr) (m c : Nat) (hm : (m : Int) ≤ 140737488355328) (w : World) :
    Calls Try.prog 55 #[.pointer none, .int .u64 x, .slice a m c] w (ErrNo w 2) := by
  skip
  have hmk : ∀ wq, (Instr.makeSlice 38 (.int .i64 (m : Int)) (.int .i64 (m : Int))).run Try.prog wq = .ok (.slice (some ⟨wq.heap.size, 0, none⟩) m m) (wq.alloc (.cells (madeCells #[.bool false] m) 4)) := fun wq => run_make_row' (P := Try.prog) 38 4 (.bool false) 1 Try.underlying38 A_info4 rfl .i64 .i64 m (by omega) (by omega) wq
  go_enter Try.func55, Try.ntmps55
  go_wp2_with fail
  clear hmk
  go_loopw [14] (fun i wr => ∃ k : Nat, (k : Int) ≤ m ∧ i = .int .i64 k ∧ wr.rowIs w.heap.size 4 m (fun j => .bool (decide (j < k))) ∧ Below w.heap.size w wr) (fun i _ => m - (intOf i).toNat)
  case atStart => exact ⟨0, by omega, rfl, (World.rowIs_made w (.bool false) m 4).congr (fun i _ => by simp), (Below.refl _ _).alloc (Nat.le_refl _) _⟩
  case round =>
    obtain ⟨k, hk2, rfl, hr, hb⟩ := hrel
    have HB := Lib.hid hb
    clear hb
    by_cases hlt : (k : Int) < m
    · have hc := hr.cell (i := k) (by omega)
      have hf := hr.frozen k
      simp only [Nat.lt_irrefl, decide_false] at hc
      have HS : Hid ((wr.setCell ⟨w.heap.size, k, none⟩ (.bool true)).rowIs w.heap.size 4 m (fun j => .bool (decide (j < k + 1)))) := (hr.set k (.bool true)).congr fun i _ => by
        by_cases hi : i = k
        · subst hi; simp
        · rw [if_neg hi]
          have : (i < k) ↔ (i < k + 1) := by omega
          simp only [this]
      clear hr hk2
      go_wp2_with fail
      exact ⟨⟨k + 1, by omega, by rw [Int.natCast_succ], HS.out, HB.out.setCell (Nat.le_refl _) _⟩, by simp [intOf]; omega⟩
    · obtain rfl : k = m := by omega
      skip
      clear hr hk2
      go_wp2_with fail
      refine (ram_some_nil x a _ k c k k _).mono ?_
      rintro e w2 ⟨rfl, hh⟩
      have HF : Hid (Below w.heap.size w w2) := below_then HB.out hh HB.out.size
      clear hh
      go_wp2_with fail
      go_ret
      exact ⟨rfl, HF.out⟩
set_option maxRecDepth 100000 in
set_option maxHeartbeats 4000000 in
theorem ram_write_bus {w : World} {b n : Nat} {ct : Nat → Nat} {S : Nat → Prop} (h : RamAt w b n ct S) (x : Int) (x0 : 0 ≤ x) (x1 : x < 18446744073709551616) (a : Option Addr) (m c : Nat) (hm : (m : Int) ≤ 140737488355328) (ha : ramAll n x m = false) :
    Calls Try.prog 55 #[.pointer (some ⟨b, 0, none⟩), .int .u64 x, .slice a m c] w (ErrNo w 6) := by
  have H := Lib.hid h
  have HA := Lib.hid ha
  clear h ha
  have hmk : ∀ wq, (Instr.makeSlice 38 (.int .i64 (m : Int)) (.int .i64 (m : Int))).run Try.prog wq = .ok (.slice (some ⟨wq.heap.size, 0, none⟩) m m) (wq.alloc (.cells (madeCells #[.bool false] m) 4)) := fun wq => run_make_row' (P := Try.prog) 38 4 (.bool false) 1 Try.underlying38 A_info4 rfl .i64 .i64 m (by omega) (by omega) wq
  go_enter Try.func55, Try.ntmps55
  go_wp2_with fail
  clear hmk
  go_loopw [14] (fun i wr => ∃ k : Nat, (k : Int) ≤ m ∧ i = .int .i64 k ∧ wr.rowIs w.heap.size 4 m (fun j => .bool (decide (j < k))) ∧ Below w.heap.size w wr) (fun i _ => m - (intOf i).toNat)
  case atStart => exact ⟨0, by omega, rfl, (World.rowIs_made w (.bool false) m 4).congr (fun i _ => by simp), (Below.refl _ _).alloc (Nat.le_refl _) _⟩
  case round =>
    obtain ⟨k, hk2, rfl, hr, hb⟩ := hrel
    have HB := Lib.hid hb
    clear hb
    by_cases hlt : (k : Int) < m
    · have hc := hr.cell (i := k) (by omega)
      have hf := hr.frozen k
      simp only [Nat.lt_irrefl, decide_false] at hc
      have HS : Hid ((wr.setCell ⟨w.heap.size, k, none⟩ (.bool true)).rowIs w.heap.size 4 m (fun j => .bool (decide (j < k + 1)))) := (hr.set k (.bool true)).congr fun i _ => by
        by_cases hi : i = k
        · subst hi; simp
        · rw [if_neg hi]
          have : (i < k) ↔ (i < k + 1) := by omega
          simp only [this]
      clear hr hk2
      go_wp2_with fail
      exact ⟨⟨k + 1, by omega, by rw [Int.natCast_succ], HS.out, HB.out.setCell (Nat.le_refl _) _⟩, by simp [intOf]; omega⟩
    · obtain rfl : k = m := by omega
      have HAT := Lib.hid (H.out.below HB.out)
      clear hr hk2
      go_wp2_with fail
      refine (ram_some_bus HAT.out x x0 x1 a _ k c k k (by omega) HA.out).mono ?_
      rintro e w2 ⟨rfl, hh⟩
      have HF : Hid (Below w.heap.size w w2) := below_then HB.out hh HB.out.size
      clear hh
      go_wp2_with fail
      go_ret
      exact ⟨rfl, HF.out⟩
/-- why there is no such word: 0 if there is -/
def mayErr (n : Nat) (x : Int) (k : Int) : Int :=
  if k = 1 ∨ k = 2 ∨ k = 4 ∨ k = 8 then (if x % k = 0 then (if ramAll n x k then 0 else 6) else 5) else 1
set_option maxRecDepth 100000 in
set_option maxHeartbeats 1000000 in
theorem ram_may_nil (x k : Int) (w : World) : Calls Try.prog 60 #[.pointer none, .int .u64 x, .int .i64 k] w (ErrNo w 2) := by
  have hB := Lib.hid (Below.refl w.heap.size w)
  go_enter Try.func60, Try.ntmps60
  go_wp2
  go_ret
  exact ⟨rfl, hB.out⟩
set_option maxRecDepth 100000 in
set_option maxHeartbeats 1000000 in
theorem ram_may_arg (b : Nat) (x k : Int) (h1 : ¬ k = 1) (h2 : ¬ k = 2) (h4 : ¬ k = 4) (h8 : ¬ k = 8) (w : World) : Calls Try.prog 60 #[.pointer (some ⟨b, 0, none⟩), .int .u64 x, .int .i64 k] w (ErrNo w 1) := by
  have hB := Lib.hid (Below.refl w.heap.size w)
  have e1 : (k != 1) = true := by simpa using h1
  have e2 : (k != 2) = true := by simpa using h2
  have e4 : (k != 4) = true := by simpa using h4
  have e8 : (k != 8) = true := by simpa using h8
  clear h1 h2 h4 h8
  go_enter Try.func60, Try.ntmps60
  go_wp2_with fail
  go_ret
  exact ⟨rfl, hB.out⟩
set_option maxRecDepth 100000 in
set_option maxHeartbeats 2000000 in
theorem ram_may_1 {w : World} {b n : Nat} {ct : Nat → Nat} {S : Nat → Prop} (h : RamAt w b n ct S) (x : Int) (x0 : 0 ≤ x) (x1 : x < 18446744073709551616) :
    Calls Try.prog 60 #[.pointer (some ⟨b, 0, none⟩), .int .u64 x, .int .i64 1] w (ErrNo w (mayErr n x 1)) := by
  have HM := Lib.hid (show mayErr n x 1 = if x % 1 = 0 then (if ramAll n x 1 then 0 else 6) else 5 by unfold mayErr; rw [if_pos (by omega)])
  have HAL := Lib.hid (bits_aligned x x0 1 (by omega) (by omega))
  have HA := Lib.hid (fun wq (hq : RamAt wq b n ct S) => ram_all_at hq x x0 x1 1 (by omega) (by omega))
  have H := Lib.hid h
  clear h x0 x1
  generalize hR : ramAll n x 1 = R at *
  by_cases hx : x % 1 = 0
  · rw [if_pos hx] at HM
    rw [show decide (x % (1 : Nat) = 0) = true from decide_eq_true (show x % ((1 : Nat) : Int) = 0 from hx)] at HAL
    have hx := Lib.hid hx
    cases R with
    | true =>
      go_enter Try.func60, Try.ntmps60
      go_wp2_with fail
      refine (HAL.out _).mono ?_
      rintro e w1 ⟨rfl, rfl⟩
      go_wp2_with fail
      refine (HA.out _ H.out).mono ?_
      rintro e w1 ⟨rfl, hb⟩
      have HB := Lib.hid hb
      clear hb
      go_wp2_with fail
      go_ret
      exact ⟨ret_int (by rw [HM.out]; rfl), HB.out⟩
    | false =>
      go_enter Try.func60, Try.ntmps60
      go_wp2_with fail
      refine (HAL.out _).mono ?_
      rintro e w1 ⟨rfl, rfl⟩
      go_wp2_with fail
      refine (HA.out _ H.out).mono ?_
      rintro e w1 ⟨rfl, hb⟩
      have HB := Lib.hid hb
      clear hb
      go_wp2_with fail
      go_ret
      exact ⟨ret_int (by rw [HM.out]; rfl), HB.out⟩
  · rw [if_neg hx] at HM
    rw [show decide (x % (1 : Nat) = 0) = false from decide_eq_false (show ¬ x % ((1 : Nat) : Int) = 0 from hx)] at HAL
    have hx := Lib.hid hx
    have hB := Lib.hid (Below.refl w.heap.size w)
    go_enter Try.func60, Try.ntmps60
    go_wp2_with fail
    refine (HAL.out _).mono ?_
    rintro e w1 ⟨rfl, rfl⟩
    go_wp2_with fail
    go_ret
    exact ⟨ret_int (by rw [HM.out]), hB.out⟩
set_option maxRecDepth 100000 in
set_option maxHeartbeats 2000000 in
theorem ram_may_2 {w : World} {b n : Nat} {ct : Nat → Nat} {S : Nat → Prop} (h : RamAt w b n ct S) (x : Int) (x0 : 0 ≤ x) (x1 : x < 18446744073709551616) :
    Calls Try.prog 60 #[.pointer (some ⟨b, 0, none⟩), .int .u64 x, .int .i64 2] w (ErrNo w (mayErr n x 2)) := by
  have HM := Lib.hid (show mayErr n x 2 = if x % 2 = 0 then (if ramAll n x 2 then 0 else 6) else 5 by unfold mayErr; rw [if_pos (by omega)])
  have HAL := Lib.hid (bits_aligned x x0 2 (by omega) (by omega))
  have HA := Lib.hid (fun wq (hq : RamAt wq b n ct S) => ram_all_at hq x x0 x1 2 (by omega) (by omega))
  have H := Lib.hid h
  clear h x0 x1
  generalize hR : ramAll n x 2 = R at *
  by_cases hx : x % 2 = 0
  · rw [if_pos hx] at HM
    rw [show decide (x % (2 : Nat) = 0) = true from decide_eq_true (show x % ((2 : Nat) : Int) = 0 from hx)] at HAL
    have hx := Lib.hid hx
    cases R with
    | true =>
      go_enter Try.func60, Try.ntmps60
      go_wp2_with fail
      refine (HAL.out _).mono ?_
      rintro e w1 ⟨rfl, rfl⟩
      go_wp2_with fail
      refine (HA.out _ H.out).mono ?_
      rintro e w1 ⟨rfl, hb⟩
      have HB := Lib.hid hb
      clear hb
      go_wp2_with fail
      go_ret
      exact ⟨ret_int (by rw [HM.out]; rfl), HB.out⟩
    | false =>
      go_enter Try.func60, Try.ntmps60
      go_wp2_with fail
      refine (HAL.out _).mono ?_
      rintro e w1 ⟨rfl, rfl⟩
      go_wp2_with fail
      refine (HA.out _ H.out).mono ?_
      rintro e w1 ⟨rfl, hb⟩
      have HB := Lib.hid hb
      clear hb
      go_wp2_with fail
      go_ret
      exact ⟨ret_int (by rw [HM.out]; rfl), HB.out⟩
  · rw [if_neg hx] at HM
    rw [show decide (x % (2 : Nat) = 0) = false from decide_eq_false (show ¬ x % ((2 : Nat) : Int) = 0 from hx)] at HAL
    have hx := Lib.hid hx
    have hB := Lib.hid (Below.refl w.heap.size w)
    go_enter Try.func60, Try.ntmps60
    go_wp2_with fail
    refine (HAL.out _).mono ?_
    rintro e w1 ⟨rfl, rfl⟩
    go_wp2_with fail
    go_ret
    exact ⟨ret_int (by rw [HM.out]), hB.out⟩
set_option maxRecDepth 100000 in
set_option maxHeartbeats 2000000 in
theorem ram_may_4 {w : World} {b n : Nat} {ct : Nat → Nat} {S : Nat → Prop} (h : RamAt w b n ct S) (x : Int) (x0 : 0 ≤ x) (x1 : x < 18446744073709551616) :
    Calls Try.prog 60 #[.pointer (some ⟨b, 0, none⟩), .int .u64 x, .int .i64 4] w (ErrNo w (mayErr n x 4)) := by
  have HM := Lib.hid (show mayErr n x 4 = if x % 4 = 0 then (if ramAll n x 4 then 0 else 6) else 5 by unfold mayErr; rw [if_pos (by omega)])
  have HAL := Lib.hid (bits_aligned x x0 4 (by omega) (by omega))
  have HA := Lib.hid (fun wq (hq : RamAt wq b n ct S) => ram_all_at hq x x0 x1 4 (by omega) (by omega))
  have H := Lib.hid h
  clear h x0 x1
  generalize hR : ramAll n x 4 = R at *
  by_cases hx : x % 4 = 0
  · rw [if_pos hx] at HM
    rw [show decide (x % (4 : Nat) = 0) = true from decide_eq_true (show x % ((4 : Nat) : Int) = 0 from hx)] at HAL
    have hx := Lib.hid hx
    cases R with
    | true =>
      go_enter Try.func60, Try.ntmps60
      go_wp2_with fail
      refine (HAL.out _).mono ?_
      rintro e w1 ⟨rfl, rfl⟩
      go_wp2_with fail
      refine (HA.out _ H.out).mono ?_
      rintro e w1 ⟨rfl, hb⟩
      have HB := Lib.hid hb
      clear hb
      go_wp2_with fail
      go_ret
      exact ⟨ret_int (by rw [HM.out]; rfl), HB.out⟩
    | false =>
      go_enter Try.func60, Try.ntmps60
      go_wp2_with fail
      refine (HAL.out _).mono ?_
      rintro e w1 ⟨rfl, rfl⟩
      go_wp2_with fail
      refine (HA.out _ H.out).mono ?_
      rintro e w1 ⟨rfl, hb⟩
      have HB := Lib.hid hb
      clear hb
      go_wp2_with fail
      go_ret
      exact ⟨ret_int (by rw [HM.out]; rfl), HB.out⟩
  · rw [if_neg hx] at HM
    rw [show decide (x % (4 : Nat) = 0) = false from decide_eq_false (show ¬ x % ((4 : Nat) : Int) = 0 from hx)] at HAL
    have hx := Lib.hid hx
    have hB := Lib.hid (Below.refl w.heap.size w)
    go_enter Try.func60, Try.ntmps60
    go_wp2_with fail
    refine (HAL.out _).mono ?_
    rintro e w1 ⟨rfl, rfl⟩
    go_wp2_with fail
    go_ret
    exact ⟨ret_int (by rw [HM.out]), hB.out⟩
set_option maxRecDepth 100000 in
set_option maxHeartbeats 2000000 in
theorem ram_may_8 {w : World} {b n : Nat} {ct : Nat → Nat} {S : Nat → Prop} (h : RamAt w b n ct S) (x : Int) (x0 : 0 ≤ x) (x1 : x < 18446744073709551616) :
    Calls Try.prog 60 #[.pointer (some ⟨b, 0, none⟩), .int .u64 x, .int .i64 8] w (ErrNo w (mayErr n x 8)) := by
  have HM := Lib.hid (show mayErr n x 8 = if x % 8 = 0 then (if ramAll n x 8 then 0 else 6) else 5 by unfold mayErr; rw [if_pos (by omega)])
  have HAL := Lib.hid (bits_aligned x x0 8 (by omega) (by omega))
  have HA := Lib.hid (fun wq (hq : RamAt wq b n ct S) => ram_all_at hq x x0 x1 8 (by omega) (by omega))
  have H := Lib.hid h
  clear h x0 x1
  generalize hR : ramAll n x 8 = R at *
  by_cases hx : x % 8 = 0
  · rw [if_pos hx] at HM
    rw [show decide (x % (8 : Nat) = 0) = true from decide_eq_true (show x % ((8 : Nat) : Int) = 0 from hx)] at HAL
    have hx := Lib.hid hx
    cases R with
    | true =>
      go_enter Try.func60, Try.ntmps60
      go_wp2_with fail
      refine (HAL.out _).mono ?_
      rintro e w1 ⟨rfl, rfl⟩
      go_wp2_with fail
      refine (HA.out _ H.out).mono ?_
      rintro e w1 ⟨rfl, hb⟩
      have HB := Lib.hid hb
      clear hb
      go_wp2_with fail
      go_ret
      exact ⟨ret_int (by rw [HM.out]; rfl), HB.out⟩
    | false =>
      go_enter Try.func60, Try.ntmps60
      go_wp2_with fail
      refine (HAL.out _).mono ?_
      rintro e w1 ⟨rfl, rfl⟩
      go_wp2_with fail
      refine (HA.out _ H.out).mono ?_
      rintro e w1 ⟨rfl, hb⟩
      have HB := Lib.hid hb
      clear hb
      go_wp2_with fail
      go_ret
      exact ⟨ret_int (by rw [HM.out]; rfl), HB.out⟩
  · rw [if_neg hx] at HM
    rw [show decide (x % (8 : Nat) = 0) = false from decide_eq_false (show ¬ x % ((8 : Nat) : Int) = 0 from hx)] at HAL
    have hx := Lib.hid hx
    have hB := Lib.hid (Below.refl w.heap.size w)
    go_enter Try.func60, Try.ntmps60
    go_wp2_with fail
    refine (HAL.out _).mono ?_
    rintro e w1 ⟨rfl, rfl⟩
    go_wp2_with fail
    go_ret
    exact ⟨ret_int (by rw [HM.out]), hB.out⟩
theorem ram_may {w : World} {b n : Nat} {ct : Nat → Nat} {S : Nat → Prop} (h : RamAt w b n ct S) (x : Int) (x0 : 0 ≤ x) (x1 : x < 18446744073709551616) (k : Int) :
    Calls Try.prog 60 #[.pointer (some ⟨b, 0, none⟩), .int .u64 x, .int .i64 k] w (ErrNo w (mayErr n x k)) := by
  by_cases h1 : k = 1
  · subst h1; exact ram_may_1 h x x0 x1
  by_cases h2 : k = 2
  · subst h2; exact ram_may_2 h x x0 x1
  by_cases h4 : k = 4
  · subst h4; exact ram_may_4 h x x0 x1
  by_cases h8 : k = 8
  · subst h8; exact ram_may_8 h x x0 x1
  have e : mayErr n x k = 1 := by unfold mayErr; rw [if_neg (by omega)]
  rw [e]
  exact ram_may_arg b x k h1 h2 h4 h8 w
end Go.Proofs.Ytefcdbpmpnmkjaa
end
section
set_option linter.unusedVariables false
set_option linter.unusedSimpArgs false
namespace Go.Proofs.Ytefcdbpmpnmkjaa
open Go.RowKit
/-- a memory that is all 0, in new blocks -/
def NewRam (w : World) (n : Nat) (e : Ending) (w' : World) : Prop := ∃ b S, e = .returned (.tuple #[.pointer (some ⟨b, 0, none⟩), .int .i64 0]) ∧ RamAt w' b n (fun _ => 0) S ∧ (∀ g, S g → w.heap.size ≤ g) ∧ w.heap.size ≤ b ∧ Below w.heap.size w w'
theorem new_ram (w w' : World) (n : Nat) (h4 : 4 ≤ n) (h256 : n ≤ 256) (hw : w' = (w.alloc (.map #[] 0)).alloc (.cells #[.int .i64 n, .map (some w.heap.size)] 117)) : RamAt w' (w.heap.size + 1) n (fun _ => 0) (RamOwn w.heap.size fun _ => none) := by
  subst hw
  refine ⟨w.heap.size, fun _ => none, ⟨?_, h4, h256, ⟨.map [], (PgMap.new w).kept ?_⟩, (fun k g h => by cases h), fun _ _ _ _ => rfl, (fun k k' g h => by cases h), fun _ => by omega, (fun k h => by cases h)⟩, rfl⟩
  · have := blk_alloc (w.alloc (.map #[] 0)) (.cells #[.int .i64 n, .map (some w.heap.size)] 117)
    simpa using this
  · exact blk_alloc_old _ _ _ (by simp)
set_option maxRecDepth 100000 in
set_option maxHeartbeats 1000000 in
theorem ram_new (n : Nat) (h4 : 4 ≤ n) (h256 : n ≤ 256) (w : World) : Calls Try.prog 54 #[.int .i64 n] w (NewRam w n) := by
  have h1 : (4 : Int) ≤ n := by omega
  have h2 : (n : Int) ≤ 256 := by omega
  have HN := Lib.hid (new_ram w _ n h4 h256 rfl)
  have HB := Lib.hid (((Below.refl w.heap.size w).alloc (Nat.le_refl _) (.map #[] 0)).alloc (by simp) (.cells #[.int .i64 n, .map (some w.heap.size)] 117))
  clear h4 h256
  have hmm := @run_makeMap Try.prog
  go_enter Try.func54, Try.ntmps54
  go_wp2_with fail
  clear hmm
  go_ret2
  exact ⟨w.heap.size + 1, _, rfl, HN.out, (by rintro g (rfl | ⟨k, hk⟩); exact Nat.le_refl _; cases hk), by omega, HB.out⟩
set_option maxRecDepth 100000 in
set_option maxHeartbeats 1000000 in
theorem ram_new_arg (n : Int) (h : n < 4 ∨ 256 < n) (w : World) : Calls Try.prog 54 #[.int .i64 n] w fun e w' => e = .returned (.tuple #[.pointer none, .int .i64 1]) ∧ w = w' := by
  by_cases h4 : n < 4
  · clear h
    go_enter Try.func54, Try.ntmps54
    go_wp2_with fail
    go_ret2
    exact ⟨rfl, rfl⟩
  · have h256 : 256 < n := by omega
    have h4 : 4 ≤ n := by omega
    clear h
    go_enter Try.func54, Try.ntmps54
    go_wp2_with fail
    go_ret2
    exact ⟨rfl, rfl⟩
theorem mayErr_0 {n : Nat} {x k : Int} (h : mayErr n x k = 0) : (k = 1 ∨ k = 2 ∨ k = 4 ∨ k = 8) ∧ x % k = 0 ∧ ramAll n x k = true := by
  unfold mayErr at h
  split at h
  · rename_i hk
    split at h
    · rename_i hx
      split at h
      · rename_i ha
        exact ⟨hk, hx, ha⟩
      · omega
    · omega
  · omega
/-- a number of an error that is none, or the word -/
def WordOr (w : World) (e : Ending) (w' : World) (er : Int) (v : Nat) : Prop := e = .returned (.tuple #[.int .u64 v, .int .i64 er]) ∧ Below w.heap.size w w'
set_option maxRecDepth 100000 in
set_option maxHeartbeats 1000000 in
theorem ram_word_nil (x k : Int) (w : World) : Calls Try.prog 41 #[.pointer none, .int .u64 x, .int .i64 k] w (WordOr w · · 2 0) := by
  go_enter Try.func41, Try.ntmps41
  go_wp2_with fail
  refine (ram_may_nil x k _).mono ?_
  rintro e w1 ⟨rfl, hb⟩
  have HB := Lib.hid hb
  clear hb
  go_wp2_with fail
  go_ret2
  exact ⟨rfl, HB.out⟩
set_option maxRecDepth 100000 in
set_option maxHeartbeats 1000000 in
theorem ram_word_err {w : World} {b n : Nat} {ct : Nat → Nat} {S : Nat → Prop} (h : RamAt w b n ct S) (x : Int) (x0 : 0 ≤ x) (x1 : x < 18446744073709551616) (k : Int) (hm : mayErr n x k ≠ 0) :
    Calls Try.prog 41 #[.pointer (some ⟨b, 0, none⟩), .int .u64 x, .int .i64 k] w (WordOr w · · (mayErr n x k) 0) := by
  have HM := Lib.hid (ram_may h x x0 x1 k)
  generalize mayErr n x k = E at *
  have he : (E != 0) = true := by simpa using hm
  clear h x0 x1 hm
  go_enter Try.func41, Try.ntmps41
  go_wp2_with fail
  refine HM.out.mono ?_
  rintro e w1 ⟨rfl, hb⟩
  have HB := Lib.hid hb
  clear hb
  go_wp2_with fail
  go_ret2
  exact ⟨rfl, HB.out⟩
/-- the word of so many bytes from off on -/
def wordAt (ct : Nat → Nat) (off k : Nat) : Nat := wordN (fun i => ct (off + i)) k
set_option maxRecDepth 100000 in
set_option maxHeartbeats 1000000 in
theorem ram_word_ok {w : World} {b n : Nat} {ct : Nat → Nat} {S : Nat → Prop} (h : RamAt w b n ct S) (x : Int) (x0 : 0 ≤ x) (x1 : x < 18446744073709551616) (k : Int) (hm : mayErr n x k = 0) :
    Calls Try.prog 41 #[.pointer (some ⟨b, 0, none⟩), .int .u64 x, .int .i64 k] w (WordOr w · · 0 (wordAt ct (x - 2147483648).toNat k.toNat)) := by
  have HM := Lib.hid (ram_may h x x0 x1 k)
  obtain ⟨hk, _, ha⟩ := mayErr_0 hm
  rw [hm] at HM
  obtain ⟨m, rfl⟩ := Int.eq_ofNat_of_zero_le (show 0 ≤ k by omega)
  have hm8 : (m : Int) ≤ 8 := by omega
  have HR := Lib.hid (fun wq (hq : RamAt wq b n ct S) => ram_read_ok hq x x0 x1 m ha)
  have H := Lib.hid h
  have HBD := Lib.hid (bytesAt_bd h.bd (x - 2147483648).toNat m)
  have HWD : Hid (wordN (fun i => ((bytesAt ct (x - 2147483648).toNat m).getD i 0).toNat) (min m 8) = wordAt ct (x - 2147483648).toNat m) := by
    show _ = _
    rw [show min m 8 = m by omega]
    refine wordN_congr m fun i hi => ?_
    rw [bytesAt_getD _ _ _ _ hi]
    simp
  clear h hk ha x0 x1 hm
  rw [Int.toNat_natCast]
  generalize bytesAt ct (x - 2147483648).toNat m = L at *
  generalize wordAt ct (x - 2147483648).toNat m = V at *
  go_enter Try.func41, Try.ntmps41
  go_wp2_with fail
  refine HM.out.mono ?_
  rintro e w1 ⟨rfl, hb⟩
  have HB := Lib.hid hb
  clear hb
  go_wp2_with fail
  refine (HR.out _ (H.out.below HB.out)).mono ?_
  rintro e w2 ⟨v, rfl, hown, hb⟩
  obtain ⟨a, c, rfl, hib⟩ := bytes_own hown HBD.out
  have HB2 : Hid (Below w.heap.size w w2) := below_then HB.out hb HB.out.size
  have HIB := Lib.hid hib
  clear hb hown hib
  go_wp2_with fail
  refine (bits_word a m c L _ HIB.out (by omega)).mono ?_
  rintro e w3 ⟨rfl, rfl⟩
  rw [HWD.out]
  go_wp2_with fail
  go_ret2
  exact ⟨rfl, HB2.out⟩
set_option maxRecDepth 100000 in
set_option maxHeartbeats 1000000 in
theorem ram_put_nil (x k v : Int) (w : World) : Calls Try.prog 32 #[.pointer none, .int .u64 x, .int .i64 k, .int .u64 v] w (ErrNo w 2) := by
  go_enter Try.func32, Try.ntmps32
  go_wp2_with fail
  refine (ram_may_nil x k _).mono ?_
  rintro e w1 ⟨rfl, hb⟩
  have HB := Lib.hid hb
  clear hb
  go_wp2_with fail
  go_ret
  exact ⟨rfl, HB.out⟩
set_option maxRecDepth 100000 in
set_option maxHeartbeats 1000000 in
theorem ram_put_err {w : World} {b n : Nat} {ct : Nat → Nat} {S : Nat → Prop} (h : RamAt w b n ct S) (x : Int) (x0 : 0 ≤ x) (x1 : x < 18446744073709551616) (k v : Int) (hm : mayErr n x k ≠ 0) :
    Calls Try.prog 32 #[.pointer (some ⟨b, 0, none⟩), .int .u64 x, .int .i64 k, .int .u64 v] w (ErrNo w (mayErr n x k)) := by
  have HM := Lib.hid (ram_may h x x0 x1 k)
  generalize mayErr n x k = E at *
  have he : (E != 0) = true := by simpa using hm
  clear h x0 x1 hm
  go_enter Try.func32, Try.ntmps32
  go_wp2_with fail
  refine HM.out.mono ?_
  rintro e w1 ⟨rfl, hb⟩
  have HB := Lib.hid hb
  clear hb
  go_wp2_with fail
  go_ret
  exact ⟨rfl, HB.out⟩
/-- a number's bytes put in -/
def putWord (ct : Nat → Nat) (off k v : Nat) : Nat → Nat := fun i => if off ≤ i ∧ i < off + k then v / 2 ^ (8 * (i - off)) % 256 else ct i
theorem numBytes_getD (v k i : Nat) (h : i < k) : (numBytes v k).getD i 0 = ((v / 2 ^ (8 * i) % 256 : Nat) : Int) := by simp [numBytes, List.getD, h]
theorem putTo_word (ct : Nat → Nat) (off k v : Nat) : putTo ct off (fun i => ((numBytes v k).getD i 0).toNat) (fun _ => true) k = putWord ct off k v := by
  funext i
  rw [putTo_at]
  unfold putWord
  by_cases hi : off ≤ i ∧ i < off + k
  · rw [if_pos ⟨hi.1, hi.2, rfl⟩, if_pos hi, numBytes_getD _ _ _ (by omega)]
    omega
  · rw [if_neg (fun h => hi ⟨h.1, h.2.1⟩), if_neg hi]
set_option maxRecDepth 100000 in
set_option maxHeartbeats 1000000 in
theorem ram_put_ok {w : World} {b n : Nat} {ct : Nat → Nat} {S : Nat → Prop} (h : RamAt w b n ct S) (x : Int) (x0 : 0 ≤ x) (x1 : x < 18446744073709551616) (k : Int) (v : Nat) (hm : mayErr n x k = 0) :
    Calls Try.prog 32 #[.pointer (some ⟨b, 0, none⟩), .int .u64 x, .int .i64 k, .int .u64 v] w fun e w' => e = .returned (.int .i64 0) ∧ RamTo w w' b n (putWord ct (x - 2147483648).toNat k.toNat v) S := by
  have HM := Lib.hid (ram_may h x x0 x1 k)
  obtain ⟨hk, _, ha⟩ := mayErr_0 hm
  rw [hm] at HM
  obtain ⟨m, rfl⟩ := Int.eq_ofNat_of_zero_le (show 0 ≤ k by omega)
  have hm8 : (m : Int) ≤ 8 := by omega
  have H := Lib.hid h
  have HA := Lib.hid ha
  have HX := Lib.hid (And.intro x0 x1)
  have HLT := Lib.hid (fun g (hg : S g) => h.lt hg)
  clear h hk ha x0 x1 hm
  rw [Int.toNat_natCast]
  go_enter Try.func32, Try.ntmps32
  go_wp2_with fail
  refine HM.out.mono ?_
  rintro e w1 ⟨rfl, hb⟩
  have HB := Lib.hid hb
  clear hb
  go_wp2_with fail
  refine (bits_bytes v m hm8 _).mono ?_
  rintro e w2 ⟨s, rfl, hown, hb⟩
  obtain ⟨a, c, rfl, hib⟩ := bytes_own hown (numBytes_bd _ _)
  have HAP : Hid (Apart S a) := by
    rintro b' o s rfl hS
    have h1 := HLT.out b' hS
    have h2 := HB.out.size
    rcases hown.2 with ⟨h, _⟩ | ⟨g, cap, cur, h, hg, _⟩
    · cases h
    · injection h with h
      injection h with h
      injection h with h
      omega
  have HB2 : Hid (Below w.heap.size w w2) := below_then HB.out hb HB.out.size
  have HIB := Lib.hid hib
  clear hb hown hib
  go_wp2_with fail
  refine (ram_write_ok (H.out.below HB2.out) x HX.out.1 HX.out.2 a m c HA.out _ HIB.out HAP.out).mono ?_
  rintro e w3 ⟨rfl, hh⟩
  rw [putTo_word] at hh
  have HF := Lib.hid (hh.from_below HB2.out)
  clear hh
  go_wp2_with fail
  go_ret
  exact ⟨rfl, HF.out⟩
end Go.Proofs.Ytefcdbpmpnmkjaa
end
section
set_option linter.unusedVariables false
set_option linter.unusedSimpArgs false
namespace Go.Proofs.Ytefcdbpmpnmkjaa
open Go.RowKit
set_option maxRecDepth 100000
structure ClintS where
  soft : Bool
  time : Nat
  cmp : Nat
def ClintS.cells (c : ClintS) : Array Value := #[.bool c.soft, .int .u64 c.time, .int .u64 c.cmp]
structure ClintS.Ok (c : ClintS) : Prop where
  time : c.time < 2 ^ 64
  cmp : c.cmp < 2 ^ 64
def ClintAt (w : World) (b : Nat) (c : ClintS) : Prop := w.heap[b]? = some (.cells c.cells 102 (0, 0))
structure UartS where
  ring : Nat → Nat
  head : Nat
  n : Nat
  sent : List Int
  on : Nat
  lost : Bool
def UartS.cells (u : UartS) (sn : Value) : Array Value := #[.int .u8 (u.ring 0), .int .u8 (u.ring 1), .int .u8 (u.ring 2), .int .u8 (u.ring 3), .int .u8 (u.ring 4), .int .u8 (u.ring 5), .int .u8 (u.ring 6), .int .u8 (u.ring 7), .int .i64 u.head, .int .i64 u.n, sn, .int .u32 u.on, .bool u.lost]
structure UartS.Ok (u : UartS) : Prop where
  ring : ∀ i, u.ring i < 256
  head : u.head < 8
  n : u.n ≤ 8
  on : u.on ≤ 1
  sent : ∀ x ∈ u.sent, 0 ≤ x ∧ x ≤ 255
/-- block b is a uart; what it has sent lies in sn -/
def UartAt (w : World) (b : Nat) (u : UartS) (sn : Value) : Prop := w.heap[b]? = some (.cells (u.cells sn) 107 (0, 0)) ∧ w.ownsRow 0 5 1 sn u.sent.length (u.sent.map (Value.int .u8))
structure Acc where
  cycle : Nat
  addr : Nat
  size : Int
  wr : Bool
  data : Nat
  err : Bool
def Acc.vals (a : Acc) : List Value := [.int .u64 a.cycle, .int .u64 a.addr, .int .i64 a.size, .bool a.wr, .int .u64 a.data, .bool a.err]
structure SocS where
  c : ClintS
  p : Dev
  u : UartS
  n : Nat
  ct : Nat → Nat
  cycle : Nat
  levels : Nat
  log : List Acc
structure SocS.Ok (σ : SocS) : Prop where
  c : σ.c.Ok
  p : σ.p.Ok
  u : σ.u.Ok
  cycle : σ.cycle < 2 ^ 64
  levels : σ.levels < 2 ^ 32
/-- where it lies -/
structure SocB where
  s : Nat
  c : Nat
  p : Nat
  u : Nat
  r : Nat
def socCells (β : SocB) (σ : SocS) (lg : Value) : Array Value := #[.pointer (some ⟨β.c, 0, none⟩), .pointer (some ⟨β.p, 0, none⟩), .pointer (some ⟨β.u, 0, none⟩), .pointer (some ⟨β.r, 0, none⟩), .int .u64 σ.cycle, .int .u32 σ.levels, lg]
structure SocIs (w : World) (β : SocB) (σ : SocS) (lg sn : Value) (SR : Nat → Prop) : Prop where
  at_ : w.heap[β.s]? = some (.cells (socCells β σ lg) 75 (0, 0))
  c : ClintAt w β.c σ.c
  p : PlicAt w β.p σ.p
  u : UartAt w β.u σ.u sn
  r : RamAt w β.r σ.n σ.ct SR
  log : w.ownsRow 0 51 6 lg σ.log.length (σ.log.flatMap Acc.vals)
  ok : σ.Ok
/-- the blocks that it may turn -/
def SocOwn (β : SocB) (lg sn : Value) (SR : Nat → Prop) (g : Nat) : Prop := g = β.s ∨ g = β.c ∨ g = β.p ∨ g = β.u ∨ SR g ∨ lg.ownBlock = some g ∨ sn.ownBlock = some g
/-- a soc at β in that state; S: the blocks that it may turn -/
def SocAt (w : World) (β : SocB) (σ : SocS) (S : Nat → Prop) : Prop := ∃ lg sn SR, SocIs w β σ lg sn SR ∧ S = SocOwn β lg sn SR
def SocTo (w w' : World) (β : SocB) (σ : SocS) (S : Nat → Prop) : Prop := ∃ S', SocAt w' β σ S' ∧ Turned S w w' ∧ ∀ g, S' g → S g ∨ w.heap.size ≤ g
/-! what stays when one part turns -/
theorem type_ne {w : World} {a b : Nat} {C C' : Array Value} {T T' : TypeId} {f f' : Nat × Nat} (h : w.heap[a]? = some (.cells C T f)) (h' : w.heap[b]? = some (.cells C' T' f')) (ht : T ≠ T') : a ≠ b := by
  rintro rfl
  rw [h] at h'
  cases h'
  exact ht rfl
theorem own_cells {w : World} {base : Nat} {e : TypeId} {size : Nat} {v : Value} {n : Nat} {xs : List Value} (h : w.ownsRow base e size v n xs) {g : Nat} (hg : v.ownBlock = some g) : ∃ C, w.heap[g]? = some (.cells C e (0, 0)) := by
  obtain ⟨_, ⟨rfl, _⟩ | ⟨g', cap, cur, rfl, _, h2, _⟩⟩ := h
  · cases hg
  · cases hg
    exact ⟨cur, h2⟩
theorem own_turned {w w' : World} {S : Nat → Prop} {base : Nat} {e : TypeId} {size : Nat} {v : Value} {n : Nat} {xs : List Value} (h : w.ownsRow base e size v n xs) (ht : Turned S w w') (hd : ∀ g, v.ownBlock = some g → ¬ S g) : w'.ownsRow base e size v n xs := by
  obtain ⟨h1, ⟨rfl, h2⟩ | ⟨g', cap, cur, rfl, h2, h3, h4⟩⟩ := h
  · exact ⟨h1, .inl ⟨rfl, h2⟩⟩
  · exact ⟨h1, .inr ⟨g', cap, cur, rfl, h2, ht.keep (hd g' rfl) h3, h4⟩⟩
theorem ram_ne {w : World} {b n x : Nat} {ct : Nat → Nat} {S : Nat → Prop} (h : RamAt w b n ct S) {C : Array Value} {T : TypeId} (hx : w.heap[x]? = some (.cells C T (0, 0))) (h1 : T ≠ 126) : ¬ S x := by
  obtain ⟨m, pg, h, rfl⟩ := h
  rintro (rfl | ⟨k, hk⟩)
  · obtain ⟨es, c, hm⟩ := h.map_is
    rw [hx] at hm
    cases hm
  · have := h.page k x hk
    rw [hx] at this
    cases this
    exact h1 rfl
theorem ram_at {w : World} {b n : Nat} {ct : Nat → Nat} {S : Nat → Prop} (h : RamAt w b n ct S) : ∃ C, w.heap[b]? = some (.cells C 117 (0, 0)) := by
  obtain ⟨m, pg, h, rfl⟩ := h
  exact ⟨_, h.at_⟩
section
variable {w w' : World} {β : SocB} {σ : SocS} {lg sn : Value} {SR : Nat → Prop}
/-- everything lies in blocks that are there -/
theorem SocIs.lt (h : SocIs w β σ lg sn SR) {g : Nat} (hg : SocOwn β lg sn SR g) : g < w.heap.size := by
  rcases hg with rfl | rfl | rfl | rfl | hg | hg | hg
  · exact blk_lt h.at_
  · exact blk_lt h.c
  · exact blk_lt h.p
  · exact blk_lt h.u.1
  · exact RamAt.lt h.r hg
  · obtain ⟨C, hC⟩ := own_cells h.log hg; exact blk_lt hC
  · obtain ⟨C, hC⟩ := own_cells h.u.2 hg; exact blk_lt hC
/-- one block of a type of its own has turned -/
theorem SocIs.clint (h : SocIs w β σ lg sn SR) (ht : Turned (· = β.c) w w') {c : ClintS} (hc : ClintAt w' β.c c) (hok : c.Ok) : SocIs w' β { σ with c := c } lg sn SR :=
  ⟨ht.keep (type_ne h.at_ h.c (by decide)) h.at_, hc, ht.keep (type_ne h.p h.c (by decide)) h.p,
    ⟨ht.keep (type_ne h.u.1 h.c (by decide)) h.u.1, own_turned h.u.2 ht fun g hg => by obtain ⟨C, hC⟩ := own_cells h.u.2 hg; exact type_ne hC h.c (by decide)⟩,
    h.r.turned ht (by obtain ⟨C, hC⟩ := ram_at h.r; exact type_ne hC h.c (by decide)) (fun g hg e => by have e : g = β.c := e; subst e; exact ram_ne h.r h.c (by decide) hg),
    own_turned h.log ht fun g hg => by obtain ⟨C, hC⟩ := own_cells h.log hg; exact type_ne hC h.c (by decide),
    ⟨hok, h.ok.p, h.ok.u, h.ok.cycle, h.ok.levels⟩⟩
theorem SocIs.plic (h : SocIs w β σ lg sn SR) (ht : Turned (· = β.p) w w') {d : Dev} (hc : PlicAt w' β.p d) (hok : d.Ok) : SocIs w' β { σ with p := d } lg sn SR :=
  ⟨ht.keep (type_ne h.at_ h.p (by decide)) h.at_, ht.keep (type_ne h.c h.p (by decide)) h.c, hc,
    ⟨ht.keep (type_ne h.u.1 h.p (by decide)) h.u.1, own_turned h.u.2 ht fun g hg => by obtain ⟨C, hC⟩ := own_cells h.u.2 hg; exact type_ne hC h.p (by decide)⟩,
    h.r.turned ht (by obtain ⟨C, hC⟩ := ram_at h.r; exact type_ne hC h.p (by decide)) (fun g hg e => by have e : g = β.p := e; subst e; exact ram_ne h.r h.p (by decide) hg),
    own_turned h.log ht fun g hg => by obtain ⟨C, hC⟩ := own_cells h.log hg; exact type_ne hC h.p (by decide),
    ⟨h.ok.c, hok, h.ok.u, h.ok.cycle, h.ok.levels⟩⟩
theorem SocIs.uart (h : SocIs w β σ lg sn SR) (ht : Turned (fun g => g = β.u ∨ sn.ownBlock = some g) w w') {u : UartS} {sn' : Value} (hc : UartAt w' β.u u sn') (hok : u.Ok) : SocIs w' β { σ with u := u } lg sn' SR := by
  have hn : ∀ {g : Nat} {C : Array Value} {T : TypeId}, w.heap[g]? = some (.cells C T (0, 0)) → T ≠ 107 → T ≠ 5 → ¬ (g = β.u ∨ sn.ownBlock = some g) := fun hg h1 h2 e => by
    rcases e with e | e
    · exact type_ne hg h.u.1 h1 e
    · obtain ⟨C, hC⟩ := own_cells h.u.2 e
      exact type_ne hg hC h2 rfl
  exact ⟨ht.keep (hn h.at_ (by decide) (by decide)) h.at_, ht.keep (hn h.c (by decide) (by decide)) h.c, ht.keep (hn h.p (by decide) (by decide)) h.p, hc,
    h.r.turned ht (by obtain ⟨C, hC⟩ := ram_at h.r; exact hn hC (by decide) (by decide)) (fun g hg e => by
      rcases e with e | e
      · subst e; exact ram_ne h.r h.u.1 (by decide) hg
      · obtain ⟨C, hC⟩ := own_cells h.u.2 e; exact ram_ne h.r hC (by decide) hg),
    own_turned h.log ht fun g hg => by obtain ⟨C, hC⟩ := own_cells h.log hg; exact hn hC (by decide) (by decide),
    ⟨h.ok.c, h.ok.p, hok, h.ok.cycle, h.ok.levels⟩⟩
theorem SocIs.ram (h : SocIs w β σ lg sn SR) (ht : Turned SR w w') {ct : Nat → Nat} {SR' : Nat → Prop} (hc : RamAt w' β.r σ.n ct SR') : SocIs w' β { σ with ct := ct } lg sn SR' :=
  ⟨ht.keep (ram_ne h.r h.at_ (by decide)) h.at_, ht.keep (ram_ne h.r h.c (by decide)) h.c, ht.keep (ram_ne h.r h.p (by decide)) h.p,
    ⟨ht.keep (ram_ne h.r h.u.1 (by decide)) h.u.1, own_turned h.u.2 ht fun g hg => by obtain ⟨C, hC⟩ := own_cells h.u.2 hg; exact ram_ne h.r hC (by decide)⟩,
    hc, own_turned h.log ht fun g hg => by obtain ⟨C, hC⟩ := own_cells h.log hg; exact ram_ne h.r hC (by decide),
    ⟨h.ok.c, h.ok.p, h.ok.u, h.ok.cycle, h.ok.levels⟩⟩
theorem SocIs.self (h : SocIs w β σ lg sn SR) (ht : Turned (fun g => g = β.s ∨ lg.ownBlock = some g) w w') {cy lv : Nat} {l : List Acc} {lg' : Value} (hs : w'.heap[β.s]? = some (.cells (socCells β { σ with cycle := cy, levels := lv, log := l } lg') 75 (0, 0)))
    (hl : w'.ownsRow 0 51 6 lg' l.length (l.flatMap Acc.vals)) (h1 : cy < 2 ^ 64) (h2 : lv < 2 ^ 32) : SocIs w' β { σ with cycle := cy, levels := lv, log := l } lg' sn SR := by
  have hn : ∀ {g : Nat} {C : Array Value} {T : TypeId}, w.heap[g]? = some (.cells C T (0, 0)) → T ≠ 75 → T ≠ 51 → ¬ (g = β.s ∨ lg.ownBlock = some g) := fun hg h1 h2 e => by
    rcases e with e | e
    · exact type_ne hg h.at_ h1 e
    · obtain ⟨C, hC⟩ := own_cells h.log e
      exact type_ne hg hC h2 rfl
  exact ⟨hs, ht.keep (hn h.c (by decide) (by decide)) h.c, ht.keep (hn h.p (by decide) (by decide)) h.p,
    ⟨ht.keep (hn h.u.1 (by decide) (by decide)) h.u.1, own_turned h.u.2 ht fun g hg => by obtain ⟨C, hC⟩ := own_cells h.u.2 hg; exact hn hC (by decide) (by decide)⟩,
    h.r.turned ht (by obtain ⟨C, hC⟩ := ram_at h.r; exact hn hC (by decide) (by decide)) (fun g hg e => by
      rcases e with e | e
      · subst e; exact ram_ne h.r h.at_ (by decide) hg
      · obtain ⟨C, hC⟩ := own_cells h.log e; exact ram_ne h.r hC (by decide) hg),
    hl, ⟨h.ok.c, h.ok.p, h.ok.u, h1, h2⟩⟩
theorem SocIs.below (h : SocIs w β σ lg sn SR) (hb : Below w.heap.size w w') : SocIs w' β σ lg sn SR :=
  ⟨(hb.block _ (blk_lt h.at_)).trans h.at_, (hb.block _ (blk_lt h.c)).trans h.c, (hb.block _ (blk_lt h.p)).trans h.p, ⟨(hb.block _ (blk_lt h.u.1)).trans h.u.1, own_turned h.u.2 (Turned.of_below hb fun _ => False) fun _ _ => id⟩, h.r.below hb, own_turned h.log (Turned.of_below hb fun _ => False) fun _ _ => id, h.ok⟩
theorem SocIs.turned {T : Nat → Prop} (h : SocIs w β σ lg sn SR) (ht : Turned T w w') (hr : ¬ T β.r) (hT : ∀ g, SocOwn β lg sn SR g → ¬ T g) : SocIs w' β σ lg sn SR :=
  ⟨ht.keep (hT _ (.inl rfl)) h.at_, ht.keep (hT _ (.inr (.inl rfl))) h.c, ht.keep (hT _ (.inr (.inr (.inl rfl)))) h.p, ⟨ht.keep (hT _ (.inr (.inr (.inr (.inl rfl))))) h.u.1, own_turned h.u.2 ht fun g hg => hT g (.inr (.inr (.inr (.inr (.inr (.inr hg))))))⟩,
    h.r.turned ht hr (fun g hg => hT g (.inr (.inr (.inr (.inr (.inl hg)))))), own_turned h.log ht fun g hg => hT g (.inr (.inr (.inr (.inr (.inr (.inl hg)))))), h.ok⟩
end
theorem SocAt.below {w w' : World} {β : SocB} {σ : SocS} {S : Nat → Prop} (h : SocAt w β σ S) (hb : Below w.heap.size w w') : SocAt w' β σ S := by
  obtain ⟨lg, sn, SR, h, rfl⟩ := h
  exact ⟨lg, sn, SR, h.below hb, rfl⟩
theorem SocAt.lt {w : World} {β : SocB} {σ : SocS} {S : Nat → Prop} (h : SocAt w β σ S) {g : Nat} (hg : S g) : g < w.heap.size := by
  obtain ⟨lg, sn, SR, h, rfl⟩ := h
  exact h.lt hg
theorem SocAt.ram {w : World} {β : SocB} {σ : SocS} {S : Nat → Prop} (h : SocAt w β σ S) : ∃ SR, RamAt w β.r σ.n σ.ct SR := by
  obtain ⟨lg, sn, SR, h, rfl⟩ := h
  exact ⟨SR, h.r⟩
theorem SocTo.of_below {w w' : World} {β : SocB} {σ : SocS} {S : Nat → Prop} (h : SocAt w β σ S) (hb : Below w.heap.size w w') : SocTo w w' β σ S := ⟨S, h.below hb, .of_below hb _, fun _ hg => .inl hg⟩
theorem SocTo.trans {w w2 w3 : World} {β : SocB} {σ σ2 : SocS} {S : Nat → Prop} (h : SocTo w w2 β σ S) (k : ∀ S', SocAt w2 β σ S' → SocTo w2 w3 β σ2 S') : SocTo w w3 β σ2 S := by
  obtain ⟨S', h1, h2, h3⟩ := h
  obtain ⟨S2, k1, k2, k3⟩ := k S' h1
  exact ⟨S2, k1, h2.trans k2 h3, fun g hg => (k3 g hg).elim (h3 g) fun e => .inr (Nat.le_trans h2.size e)⟩
end Go.Proofs.Ytefcdbpmpnmkjaa
end
section
set_option linter.unusedVariables false
set_option linter.unusedSimpArgs false
namespace Go.Proofs.Ytefcdbpmpnmkjaa
open Go.RowKit
set_option maxRecDepth 100000
def uart0 : UartS := ⟨fun _ => 0, 0, 0, [], 0, false⟩
theorem uart0_ok : uart0.Ok := ⟨fun _ => by show 0 < 256; decide, by decide, by decide, by decide, fun x hx => by simp [uart0] at hx⟩
theorem uart_new (w : World) : Calls Try.prog 24 #[] w fun e w' => e = .returned (.pointer (some ⟨w.heap.size, 0, none⟩)) ∧ w' = w.alloc (.cells (uart0.cells (.slice none 0 0)) 107) := by
  go_enter Try.func24, Try.ntmps24
  go_wp2
  go_ret
  exact ⟨rfl, rfl⟩
theorem uart_new_at (w : World) : UartAt (w.alloc (.cells (uart0.cells (.slice none 0 0)) 107)) w.heap.size uart0 (.slice none 0 0) := ⟨blk_alloc _ _, World.ownsRow_nil _ _ _ _⟩
/-- block b has become the uart u; nothing else that was there has turned, but for the row of what it has sent -/
def UartTo (w : World) (b : Nat) (u : UartS) (sn : Value) (w' : World) : Prop := ∃ sn', UartAt w' b u sn' ∧ Turned (fun g => g = b ∨ sn.ownBlock = some g) w w' ∧ ∀ g, sn'.ownBlock = some g → sn.ownBlock = some g ∨ w.heap.size ≤ g
theorem UartAt.ne {w : World} {b : Nat} {u : UartS} {sn : Value} (h : UartAt w b u sn) : ∀ g, sn.ownBlock = some g → g ≠ b := fun g hg => by
  obtain ⟨C, hC⟩ := own_cells h.2 hg
  exact type_ne hC h.1 (by decide)
/-- only the uart's own block has turned -/
theorem UartTo.one {w w' : World} {b : Nat} {u u' : UartS} {sn : Value} (h : UartAt w b u sn) (ht : Turned (· = b) w w') (hs : w'.heap[b]? = some (.cells (u'.cells sn) 107 (0, 0))) (he : u'.sent = u.sent) : UartTo w b u' sn w' :=
  ⟨sn, ⟨hs, by rw [he]; exact own_turned h.2 ht fun g hg => h.ne g hg⟩, ht.mono fun g => .inl, fun g hg => .inl hg⟩
theorem uring_get (u : UartS) (sn : Value) : ∀ j, j < 8 → (u.cells sn)[j]? = some (.int .u8 (u.ring j))
  | 0, _ => rfl | 1, _ => rfl | 2, _ => rfl | 3, _ => rfl | 4, _ => rfl | 5, _ => rfl | 6, _ => rfl | 7, _ => rfl
  | n + 8, h => absurd h (by omega)
theorem uring_set (u : UartS) (sn : Value) (x : Nat) : ∀ j, j < 8 → (u.cells sn).setIfInBounds j (.int .u8 x) = ({ u with ring := upd u.ring j x } : UartS).cells sn
  | 0, _ => rfl | 1, _ => rfl | 2, _ => rfl | 3, _ => rfl | 4, _ => rfl | 5, _ => rfl | 6, _ => rfl | 7, _ => rfl
  | n + 8, h => absurd h (by omega)
def UartS.recv (u : UartS) (x : Nat) : Bool × UartS := if u.n = 8 then (false, { u with lost := true }) else (true, { u with ring := upd u.ring ((u.head + u.n) % 8) x, n := u.n + 1 })
theorem upd_lt_u {f : Nat → Nat} {B i v : Nat} (h : ∀ j, f j < B) (hv : v < B) : ∀ j, upd f i v j < B := fun j => by
  unfold upd
  split
  · exact hv
  · exact h j
theorem UartS.Ok.recv {u : UartS} (h : u.Ok) {x : Nat} (hx : x < 256) : (u.recv x).2.Ok := by
  unfold UartS.recv
  split
  · exact ⟨h.ring, h.head, h.n, h.on, h.sent⟩
  · exact ⟨upd_lt_u h.ring hx, h.head, by have := h.n; show u.n + 1 ≤ 8; omega, h.on, h.sent⟩
set_option maxHeartbeats 1000000 in
theorem uart_recv {w : World} {b : Nat} {u : UartS} {sn : Value} (h : UartAt w b u sn) (hok : u.Ok) (x : Nat) (hx : x < 256) :
    Calls Try.prog 33 #[.pointer (some ⟨b, 0, none⟩), .int .u8 x] w fun e w' => e = .returned (.bool (u.recv x).1) ∧ UartTo w b (u.recv x).2 sn w' := by
  have c8 : w.cell? ⟨b, 8, none⟩ = some (.int .i64 u.head) := blk_cell h.1 8
  have c9 : w.cell? ⟨b, 9, none⟩ = some (.int .i64 u.n) := blk_cell h.1 9
  have H := Lib.hid h
  by_cases hn : u.n = 8
  · have HF : Hid (u.recv x = (false, { u with lost := true })) := by show _ = _; unfold UartS.recv; rw [if_pos hn]
    rw [hn] at c9
    have f12 : w.frozen? ⟨b, 12, none⟩ = false := blk_frozen h.1 12
    have c12 : w.cell? ⟨b, 12, none⟩ = some (.bool u.lost) := blk_cell h.1 12
    clear h hok hn
    go_enter Try.func33, Try.ntmps33
    go_wp2
    go_ret
    rw [HF.out]
    exact ⟨rfl, .one H.out ((Turned.refl (· = b) w).set (.inl rfl) _ _) (blk_set H.out.1 12 _) rfl⟩
  · have HF : Hid (u.recv x = (true, { u with ring := upd u.ring ((u.head + u.n) % 8) x, n := u.n + 1 })) := by show _ = _; unfold UartS.recv; rw [if_neg hn]
    have hb : ((u.n : Int) == 8) = false := by simp; omega
    have h1 := hok.head; have h2 := hok.n
    obtain ⟨j, hj, hj8⟩ : ∃ j, j = (u.head + u.n) % 8 ∧ j < 8 := ⟨_, rfl, by omega⟩
    have e1 : ((u.head : Int) + u.n) % 8 = (j : Int) := by omega
    have e1' : ((u.head : Int) + u.n).tmod 8 = (j : Int) := by rw [Int.tmod_eq_emod_of_nonneg (by omega)]; exact e1
    have e2 : IntKind.i64.wrap ((u.head : Int) + u.n) = (u.head : Int) + u.n := by rw [IntKind.wrap_i64]; omega
    have e4 : IntKind.i64.wrap (j : Int) = j := by rw [IntKind.wrap_i64]; omega
    have e3 : IntKind.i64.wrap ((u.n : Int) + 1) = ((u.n + 1 : Nat) : Int) := by rw [IntKind.wrap_i64]; omega
    have hjl : (j : Int) < 8 := by omega
    have cj : w.cell? ⟨b, j, none⟩ = some (.int .u8 (u.ring j)) := (blk_cell h.1 j).trans (uring_get u sn j hj8)
    have fj : w.frozen? ⟨b, j, none⟩ = false := blk_frozen h.1 j
    have f9 : w.frozen? ⟨b, 9, none⟩ = false := blk_frozen h.1 9
    rw [← hj] at HF
    have HJ := Lib.hid hj8
    have hj9 : ¬ 9 = j := by omega
    clear h hok hn h1 h2 hj hj8
    go_enter Try.func33, Try.ntmps33
    go_wp2
    go_region
    go_wp2
    go_ret
    rw [HF.out]
    have hs := blk_set (blk_set H.out.1 j (.int .u8 x)) 9 (.int .i64 ((u.n : Int) + 1))
    rw [uring_set u sn x j HJ.out] at hs
    have ht := ((Turned.refl (· = b) w).set (.inl rfl) j (.int .u8 x)).set (g := b) (.inl rfl) 9 (.int .i64 ((u.n : Int) + 1))
    exact ⟨rfl, .one H.out ht.drew hs rfl⟩
theorem turned_drews {S : Nat → Prop} {a b : World} (h : Turned S a b) (n : Nat) : Turned S a (b.drewN n) := ⟨h.os, h.tape, h.output, h.size, h.block⟩
def UartS.take (u : UartS) : Nat × UartS := if u.n = 0 then (2147483648, u) else (u.ring u.head, { u with head := (u.head + 1) % 8, n := u.n - 1 })
theorem UartS.Ok.take {u : UartS} (h : u.Ok) : u.take.2.Ok := by
  unfold UartS.take
  split
  · exact h
  · exact ⟨h.ring, Nat.mod_lt _ (by omega), by have := h.n; show u.n - 1 ≤ 8; omega, h.on, h.sent⟩
set_option maxHeartbeats 1000000 in
theorem uart_take {w : World} {b : Nat} {u : UartS} {sn : Value} (h : UartAt w b u sn) (hok : u.Ok) :
    Calls Try.prog 94 #[.pointer (some ⟨b, 0, none⟩)] w fun e w' => e = .returned (.int .u64 (u.take.1 : Nat)) ∧ UartTo w b u.take.2 sn w' := by
  have c8 : w.cell? ⟨b, 8, none⟩ = some (.int .i64 u.head) := blk_cell h.1 8
  have c9 : w.cell? ⟨b, 9, none⟩ = some (.int .i64 u.n) := blk_cell h.1 9
  have H := Lib.hid h
  by_cases hn : u.n = 0
  · have HF : Hid (u.take = (2147483648, u)) := by show _ = _; unfold UartS.take; rw [if_pos hn]
    rw [hn] at c9
    clear h hok hn
    go_enter Try.func94, Try.ntmps94
    go_wp2
    go_ret
    rw [HF.out]
    exact ⟨rfl, .one H.out (Turned.refl _ _) H.out.1 rfl⟩
  · have HF : Hid (u.take = (u.ring u.head, { u with head := (u.head + 1) % 8, n := u.n - 1 })) := by show _ = _; unfold UartS.take; rw [if_neg hn]
    have hb : ((u.n : Int) == 0) = false := by simp; omega
    have h1 := hok.head; have h2 := hok.n
    have e1 : ((u.head : Int) + 1) % 8 = (((u.head + 1) % 8 : Nat) : Int) := by omega
    have e1' : ((u.head : Int) + 1).tmod 8 = (((u.head + 1) % 8 : Nat) : Int) := by rw [Int.tmod_eq_emod_of_nonneg (by omega)]; exact e1
    have e2 : IntKind.i64.wrap ((u.head : Int) + 1) = (u.head : Int) + 1 := by rw [IntKind.wrap_i64]; omega
    have e3 : IntKind.i64.wrap ((u.n : Int) - 1) = (u.n : Int) - 1 := by rw [IntKind.wrap_i64]; omega
    have e4 : IntKind.i64.wrap (((u.head + 1) % 8 : Nat) : Int) = (((u.head + 1) % 8 : Nat) : Int) := by rw [IntKind.wrap_i64]; omega
    have e5 : (u.n : Int) - 1 = ((u.n - 1 : Nat) : Int) := by omega
    have E5 := Lib.hid e5
    generalize (u.head + 1) % 8 = j at *
    have hjl : (u.head : Int) < 8 := by omega
    have cj : w.cell? ⟨b, u.head, none⟩ = some (.int .u8 (u.ring u.head)) := (blk_cell h.1 u.head).trans (uring_get u sn u.head h1)
    have f8 : w.frozen? ⟨b, 8, none⟩ = false := blk_frozen h.1 8
    have f9 : w.frozen? ⟨b, 9, none⟩ = false := blk_frozen h.1 9
    have e6 : IntKind.u64.wrap (u.ring u.head : Int) = (u.ring u.head : Int) := by have := hok.ring u.head; rw [IntKind.wrap_u64]; omega
    have e7 : (u.n : Int) - 1 = ((u.n - 1 : Nat) : Int) := E5.out
    have E7 := Lib.hid e7
    clear e7
    clear h hok hn h1 h2 e5
    go_enter Try.func94, Try.ntmps94
    go_wp2
    go_quiet (fail)
    go_wp2
    go_region
    all_goals
      go_wp2
      go_ret
      rw [HF.out]
      have h1 := blk_set (blk_set H.out.1 8 (.int .i64 (j : Int))) 9 (.int .i64 ((u.n : Int) - 1))
      have t1 := fun q => ((turned_drews (Turned.refl (· = b) w) q).set (.inl rfl) 8 (.int .i64 (j : Int))).set (g := b) (.inl rfl) 9 (.int .i64 ((u.n : Int) - 1))
      have h2 := blk_set (blk_set H.out.1 9 (.int .i64 ((u.n : Int) - 1))) 8 (.int .i64 (j : Int))
      have t2 := fun q => ((turned_drews (Turned.refl (· = b) w) q).set (.inl rfl) 9 (.int .i64 ((u.n : Int) - 1))).set (g := b) (.inl rfl) 8 (.int .i64 (j : Int))
      simp only [E5.out] at h1 t1 h2 t2 ⊢
      refine ⟨rfl, ?_⟩
      first
        | exact .one H.out (t1 _) h1 rfl
        | exact .one H.out (t2 _) h2 rfl
end Go.Proofs.Ytefcdbpmpnmkjaa
end
section
set_option linter.unusedVariables false
set_option linter.unusedSimpArgs false
namespace Go.Proofs.Ytefcdbpmpnmkjaa
open Go.RowKit
set_option maxRecDepth 100000
/-- behind an append to a slice that lies in a field, ahead of the store -/
theorem field_kept {w w1 : World} {b : Nat} {C : Array Value} {T e : TypeId} {base size k : Nat} {v : Value} {xs : List Value} {tmp : Obj} (hb : w.heap[b]? = some (.cells C T (0, 0))) (hTe : T ≠ e) (hrow : w.ownsRow base e size v k xs) (hgrow : (w.alloc tmp).grownBy w1 v.ownBlock) : w1.heap[b]? = some (.cells C T (0, 0)) := by
  have hlt := blk_lt hb
  refine (hgrow.block b (by simp; omega) fun e' => ?_).trans ((blk_alloc_old _ _ _ hlt).trans hb)
  obtain ⟨C', hC⟩ := own_cells hrow e'.symm
  exact type_ne hb hC hTe rfl
/-- .. and behind the store -/
theorem field_appended {w w1 : World} {b : Nat} {C : Array Value} {T e : TypeId} {base size k m : Nat} {v v' : Value} {xs ys : List Value} {tmp : Obj} (hb : w.heap[b]? = some (.cells C T (0, 0))) (hTe : T ≠ e) (hrow : w.ownsRow base e size v k xs) (hown' : w1.ownsRow base e size v' m ys) (hgrow : (w.alloc tmp).grownBy w1 v.ownBlock)
    (hob : v'.ownBlock = v.ownBlock ∨ v'.ownBlock = some (w.alloc tmp).heap.size) (o : Nat) :
    (w1.setCell ⟨b, o, none⟩ v').heap[b]? = some (.cells (C.setIfInBounds o v') T (0, 0)) ∧ (w1.setCell ⟨b, o, none⟩ v').ownsRow base e size v' m ys ∧ Turned (fun g => g = b ∨ v.ownBlock = some g) w (w1.setCell ⟨b, o, none⟩ v') ∧ ∀ g, v'.ownBlock = some g → v.ownBlock = some g ∨ w.heap.size ≤ g := by
  have h1 := field_kept hb hTe hrow hgrow
  have ht : Turned (fun g => g = b ∨ v.ownBlock = some g) w w1 := ⟨hgrow.os, hgrow.tape, hgrow.output, by have := hgrow.size; simp at this; omega, fun g hg hn => (hgrow.block g (by simp; omega) fun e' => hn (.inr e'.symm)).trans (blk_alloc_old _ _ _ hg)⟩
  refine ⟨blk_set h1 o v', own_turned hown' ((Turned.refl (· = b) w1).set (.inl rfl) o v') (fun g hg => ?_), ht.set (.inl (.inl rfl)) o v', fun g hg => ?_⟩
  · obtain ⟨C', hC⟩ := own_cells hown' hg
    exact fun e' => type_ne hC h1 (Ne.symm hTe) e'
  · rcases hob with e' | e'
    · exact .inl (e' ▸ hg)
    · rw [e'] at hg
      have := Option.some.inj hg
      simp at this
      exact .inr (by omega)
def UartS.told (u : UartS) : Nat × UartS := ((if 0 < u.n then 3 else 2) ||| (if u.lost then 4 else 0), { u with lost := false })
theorem UartS.Ok.told {u : UartS} (h : u.Ok) : u.told.2.Ok := ⟨h.ring, h.head, h.n, h.on, h.sent⟩
set_option maxHeartbeats 1000000 in
theorem uart_told {w : World} {b : Nat} {u : UartS} {sn : Value} (h : UartAt w b u sn) :
    Calls Try.prog 95 #[.pointer (some ⟨b, 0, none⟩)] w fun e w' => e = .returned (.int .u64 (u.told.1 : Nat)) ∧ UartTo w b u.told.2 sn w' := by
  have c9 : w.cell? ⟨b, 9, none⟩ = some (.int .i64 u.n) := blk_cell h.1 9
  have c12 : w.cell? ⟨b, 12, none⟩ = some (.bool u.lost) := blk_cell h.1 12
  have f12 : w.frozen? ⟨b, 12, none⟩ = false := blk_frozen h.1 12
  have H := Lib.hid h
  have HF : ∀ n l, (if 0 < u.n then 3 else 2) = n → (if u.lost then 4 else 0) = l → Hid (u.told = (n ||| l, { u with lost := false })) := fun n l h1 h2 => by show _ = _; unfold UartS.told; rw [h1, h2]
  have HFF := Lib.hid HF
  clear HF h
  by_cases hn : 0 < u.n <;> cases hl : u.lost
  all_goals
    rw [hl] at c12
    have HV := HFF.out _ _ (by first | exact if_pos hn | exact if_neg hn) (by rw [hl])
    first | (have hb : decide (0 < u.n) = true := by simpa using hn) | (have hb : decide (0 < u.n) = false := by simpa using hn)
    clear hn HFF hl
    go_enter Try.func95, Try.ntmps95
    go_wp2
    go_ret
    rw [HV.out]
    exact ⟨rfl, .one H.out ((Turned.refl (· = b) w).set (.inl rfl) _ _) (blk_set H.out.1 12 _) rfl⟩
def UartS.line (u : UartS) : Bool := decide (u.on ≠ 0 ∧ 0 < u.n)
theorem uart_line {w : World} {b : Nat} {u : UartS} {sn : Value} (h : UartAt w b u sn) (hok : u.Ok) :
    Calls Try.prog 34 #[.pointer (some ⟨b, 0, none⟩)] w fun e w' => e = .returned (.bool u.line) ∧ w = w' := by
  have c9 : w.cell? ⟨b, 9, none⟩ = some (.int .i64 u.n) := blk_cell h.1 9
  have c11 : w.cell? ⟨b, 11, none⟩ = some (.int .u32 u.on) := blk_cell h.1 11
  clear h
  have hon := hok.on
  by_cases ho : u.on = 0
  · have HF : Hid (u.line = false) := by show _ = _; unfold UartS.line; simp [ho]
    rw [ho] at c11
    clear ho hon hok
    go_enter Try.func34, Try.ntmps34
    go_wp2
    go_ret
    exact ⟨by rw [HF.out]; rfl, rfl⟩
  · have e1 : u.on = 1 := by omega
    rw [e1] at c11
    by_cases hn : 0 < u.n
    · have HF : Hid (u.line = true) := by show _ = _; unfold UartS.line; simp [ho, hn]
      have hb : decide (0 < u.n) = true := by simpa using hn
      clear ho hon hok e1 hn
      go_enter Try.func34, Try.ntmps34
      go_wp2
      go_ret
      exact ⟨by rw [HF.out]; rfl, rfl⟩
    · have HF : Hid (u.line = false) := by show _ = _; unfold UartS.line; simp [hn]
      have hb : decide (0 < u.n) = false := by simpa using hn
      clear ho hon hok e1 hn
      go_enter Try.func34, Try.ntmps34
      go_wp2
      go_ret
      exact ⟨by rw [HF.out]; rfl, rfl⟩
def UartS.read (u : UartS) (off size : Int) : Nat × Int × UartS := if size = 4 then (if off = 0 then (u.take.1, 0, u.take.2) else if off = 4 then (u.told.1, 0, u.told.2) else if off = 8 then (u.on, 0, u) else (0, 6, u)) else (0, 6, u)
theorem UartS.Ok.read {u : UartS} (h : u.Ok) (off size : Int) : (u.read off size).2.2.Ok := by
  unfold UartS.read
  repeat' split
  all_goals first | exact h | exact h.take | exact h.told
theorem uart_read {w : World} {b : Nat} {u : UartS} {sn : Value} (h : UartAt w b u sn) (hok : u.Ok) (off size : Int) :
    Calls Try.prog 92 #[.pointer (some ⟨b, 0, none⟩), .int .u64 off, .int .i64 size] w fun e w' => e = .returned (.tuple #[.int .u64 ((u.read off size).1 : Nat), .int .i64 (u.read off size).2.1]) ∧ UartTo w b (u.read off size).2.2 sn w' := by
  have c11 : w.cell? ⟨b, 11, none⟩ = some (.int .u32 u.on) := blk_cell h.1 11
  have HT := Lib.hid (uart_take h hok); have HD := Lib.hid (uart_told h); have H := Lib.hid h
  have HN : Hid (UartTo w b u sn w) := .one h (Turned.refl _ _) h.1 rfl
  have eon : IntKind.u64.wrap (u.on : Int) = u.on := by have := hok.on; rw [IntKind.wrap_u64]; omega
  clear h hok
  by_cases hs : size = 4
  · subst hs
    by_cases h0 : off = 0
    · subst h0
      have HF : Hid (u.read 0 4 = (u.take.1, 0, u.take.2)) := rfl
      go_enter Try.func92, Try.ntmps92
      go_wp2_with fail
      refine HT.out.mono ?_
      rintro e w' ⟨rfl, hu⟩
      have HU := Lib.hid hu
      clear hu
      go_wp2
      go_ret2
      rw [HF.out]
      exact ⟨rfl, HU.out⟩
    · have e0 : (off == 0) = false := by simpa using h0
      by_cases h4 : off = 4
      · subst h4
        have HF : Hid (u.read 4 4 = (u.told.1, 0, u.told.2)) := rfl
        clear h0 e0
        go_enter Try.func92, Try.ntmps92
        go_wp2_with fail
        refine HD.out.mono ?_
        rintro e w' ⟨rfl, hu⟩
        have HU := Lib.hid hu
        clear hu
        go_wp2
        go_ret2
        rw [HF.out]
        exact ⟨rfl, HU.out⟩
      · have e4 : (off == 4) = false := by simpa using h4
        by_cases h8 : off = 8
        · subst h8
          have HF : Hid (u.read 8 4 = (u.on, 0, u)) := rfl
          clear h0 e0 h4 e4
          go_enter Try.func92, Try.ntmps92
          go_wp2
          go_ret2
          rw [HF.out]
          exact ⟨rfl, HN.out⟩
        · have e8 : (off == 8) = false := by simpa using h8
          have HF : Hid (u.read off 4 = (0, 6, u)) := by show _ = _; unfold UartS.read; rw [if_pos rfl, if_neg h0, if_neg h4, if_neg h8]
          clear h0 h4 h8
          go_enter Try.func92, Try.ntmps92
          go_wp2
          go_ret2
          rw [HF.out]
          exact ⟨rfl, HN.out⟩
  · have es : (size == 4) = false := by simpa using hs
    have HF : Hid (u.read off size = (0, 6, u)) := by show _ = _; unfold UartS.read; rw [if_neg hs]
    clear hs
    go_enter Try.func92, Try.ntmps92
    go_wp2
    go_ret2
    rw [HF.out]
    exact ⟨rfl, HN.out⟩
theorem bit0 (v : Nat) (hv : v < 2 ^ 64) : bits .and .u64 (v : Int) 1 = ((v % 2 : Nat) : Int) := by
  show IntKind.u64.wrap ((BitVec.ofInt 64 (v : Int) &&& BitVec.ofInt 64 1).toNat : Int) = _
  have e2 : ∀ q : Nat, q < 2 ^ 64 → (BitVec.ofInt 64 (q : Int)).toNat = q := fun q hq => by simp; omega
  have e1 : (BitVec.ofInt 64 1).toNat = 2 ^ 1 - 1 := by decide
  rw [BitVec.toNat_and, e2 v hv, e1, Nat.and_two_pow_sub_one_eq_mod, IntKind.wrap_u64]
  omega
def UartS.write (u : UartS) (off size : Int) (v : Nat) : Int × UartS := if size = 4 then (if off = 0 then (0, { u with sent := u.sent ++ [((v % 256 : Nat) : Int)] }) else if off = 8 then (0, { u with on := v % 2 }) else (6, u)) else (6, u)
theorem UartS.Ok.write {u : UartS} (h : u.Ok) (off size : Int) (v : Nat) : (u.write off size v).2.Ok := by
  unfold UartS.write
  repeat' split
  · refine ⟨h.ring, h.head, h.n, h.on, fun x hx => ?_⟩
    rcases List.mem_append.1 hx with hx | hx
    · exact h.sent x hx
    · simp at hx; omega
  · exact ⟨h.ring, h.head, h.n, by show v % 2 ≤ 1; omega, h.sent⟩
  · exact h
  · exact h
set_option maxHeartbeats 1000000 in
theorem uart_write {w : World} {b : Nat} {u : UartS} {sn : Value} (h : UartAt w b u sn) (hs : u.sent.length < 1000000) (off size : Int) (v : Nat) (hv : v < 2 ^ 64) :
    Calls Try.prog 93 #[.pointer (some ⟨b, 0, none⟩), .int .u64 off, .int .i64 size, .int .u64 v] w fun e w' => e = .returned (.int .i64 (u.write off size v).1) ∧ UartTo w b (u.write off size v).2 sn w' := by
  have H := Lib.hid h
  have HN : Hid (UartTo w b u sn w) := .one h (Turned.refl _ _) h.1 rfl
  by_cases hsz : size = 4
  · subst hsz
    by_cases h0 : off = 0
    · subst h0
      have HF : Hid (u.write 0 4 v = (0, { u with sent := u.sent ++ [((v % 256 : Nat) : Int)] })) := rfl
      have c10 : w.cell? ⟨b, 10, none⟩ = some sn := blk_cell h.1 10
      have e8 : IntKind.u8.wrap (v : Int) = ((v % 256 : Nat) : Int) := by rw [IntKind.wrap_u8]; omega
      have HB8 := Lib.hid (show ((v % 256 : Nat) : Int) = ((v : Int) % 256) by omega)
      obtain ⟨i0, hi0, hz0⟩ := Option.map_eq_some_iff.1 A_info5
      simp only [Prod.mk.injEq] at hz0
      have HI := Lib.hid hi0; have HZ := Lib.hid hz0
      have HK1 : Hid (u.sent.length + 1 ≤ maxLen ∧ (u.sent.length + 1) * 1 ≤ 140737488355328) := by
        refine ⟨?_, by omega⟩
        show _ ≤ _
        unfold maxLen
        omega
      have h0u := h
      clear h hv hs hi0 hz0
      have HOW := Lib.hid h0u.2
      have HNE := Lib.hid h0u.ne
      clear h0u
      generalize hx : ((v % 256 : Nat) : Int) = x at *
      clear hx
      go_enter Try.func93, Try.ntmps93
      go_wp2_with (at_builtin; go_must (with_reducible refine wpList_append_own_at _ rfl (.tmp 20) (.tmp 23) 37 rfl 0 5 i0 (.int .u8 0) 1 1 Try.underlying37 HI.out HZ.out.1 HZ.out.2.1 HZ.out.2.2 ?e0 (by decide) sn u.sent.length (u.sent.map (Value.int .u8)) ?e1 (HOW.out.alloc _) ⟨w.heap.size, 0, none⟩ 1 1 [.int .u8 x] ?e2 ?e4 (cell_one_new _ _ _) ?e3 HK1.out.1 HK1.out.2 (Nat.zero_le _) ?_); go_must (case e0 => rfl); go_must (case e1 => rfl); go_must (case e2 => rfl); go_must (case e4 => rfl); go_must (case e3 => simp [Value.oneCell']); go_must (intro v' w1 hown' hgrow _ hob); go_must (have hk := field_kept H.out.1 (by decide) HOW.out hgrow); go_must (have hfin := field_appended H.out.1 (by decide) HOW.out hown' hgrow hob 10); go_must (have HFIN := Lib.hid hfin); clear hfin; go_must (obtain ⟨g', cap', rfl⟩ := ownsRow_succ hown'); go_must (have c10' : w1.cell? ⟨b, 10, none⟩ = some sn := blk_cell hk 10); go_must (have f10 : w1.frozen? ⟨b, 10, none⟩ = false := blk_frozen hk 10); clear hown' hgrow hob hk)
      go_ret
      rw [HF.out]
      obtain ⟨q1, q2, q3, q4⟩ := HFIN.out
      refine ⟨rfl, _, ⟨q1, ?_⟩, q3, q4⟩
      show World.ownsRow _ _ _ _ _ (u.sent ++ [x]).length ((u.sent ++ [x]).map _)
      rw [List.length_append, List.map_append]
      exact q2
    · have e0 : (off == 0) = false := by simpa using h0
      by_cases h8 : off = 8
      · subst h8
        have HF : Hid (u.write 8 4 v = (0, { u with on := v % 2 })) := rfl
        have c11 : w.cell? ⟨b, 11, none⟩ = some (.int .u32 u.on) := blk_cell h.1 11
        have f11 : w.frozen? ⟨b, 11, none⟩ = false := blk_frozen h.1 11
        have ea : bits .and .u64 (v : Int) 1 = ((v % 2 : Nat) : Int) := bit0 v hv
        have ew : IntKind.u32.wrap ((v % 2 : Nat) : Int) = ((v % 2 : Nat) : Int) := by rw [IntKind.wrap_u32]; omega
        clear h0 e0 h hs hv
        generalize v % 2 = x at *
        go_enter Try.func93, Try.ntmps93
        go_wp2
        go_ret
        rw [HF.out]
        exact ⟨rfl, .one H.out ((Turned.refl (· = b) w).set (.inl rfl) _ _) (blk_set H.out.1 11 _) rfl⟩
      · have e8 : (off == 8) = false := by simpa using h8
        have HF : Hid (u.write off 4 v = (6, u)) := by show _ = _; unfold UartS.write; rw [if_pos rfl, if_neg h0, if_neg h8]
        clear h0 h8 h hs hv
        go_enter Try.func93, Try.ntmps93
        go_wp2
        go_ret
        rw [HF.out]
        exact ⟨rfl, HN.out⟩
  · have es : (size == 4) = false := by simpa using hsz
    have HF : Hid (u.write off size v = (6, u)) := by show _ = _; unfold UartS.write; rw [if_neg hsz]
    clear hsz h hs hv
    go_enter Try.func93, Try.ntmps93
    go_wp2
    go_ret
    rw [HF.out]
    exact ⟨rfl, HN.out⟩
end Go.Proofs.Ytefcdbpmpnmkjaa
end
section
set_option linter.unusedVariables false
set_option linter.unusedSimpArgs false
namespace Go.Proofs.Ytefcdbpmpnmkjaa
open Go.RowKit
set_option maxRecDepth 100000
/-- bytes of the call's own -/
def Fresh (w : World) (l : List Int) (v : Value) (w' : World) : Prop := w'.ownsRow w.heap.size 5 1 v l.length (l.map (Value.int .u8)) ∧ Below w.heap.size w w'
def SentIs (w : World) (l : List Int) (e : Ending) (w' : World) : Prop := ∃ v, e = .returned v ∧ Fresh w l v w'
theorem step_app {P : Program} {w : World} {ops : Array Oper} {o : Oper} {a : Act} {K : Act → World → Prop} {Q : Exit → Act → World → Prop} {E : Prop} (hgd : o.guard = none) (s x : Operand) (t : TypeId)
    (ho : o.op = .call { callee := .builtin .append, args := #[s, x], argTypes := #[t, t] })
    (base : Nat) (e : TypeId) (z : Value) (bytes : Nat) (ht : P.underlying t = some (.slice e)) (hinfo : (P.info? e).map (fun i => (i.zero, i.size, i.bytes)) = some (some z, 1, bytes)) (hz1 : z.cells = #[z])
    (v : Value) (n : Nat) (xs : List Value) (hs : a.eval s = v) (hown : w.ownsRow base e 1 v n xs)
    (ad : Option Addr) (m c : Nat) (news : List Value) (hx : a.eval x = .slice ad m c) (hsrc : SrcIs w ad m news) (h1 : ∀ u ∈ news, u.oneCell' = true)
    (hbytes : (n + m) * bytes ≤ 140737488355328) (h63 : n + m ≤ maxLen) (hbase : base ≤ w.heap.size)
    (h : ∀ v' w', w'.ownsRow base e 1 v' (n + m) (xs ++ news) → w.grownBy w' v.ownBlock → K (a.put o.dst v') w') : if Region.wanted o (yielded ops a.tmps) = true then Oper.wp P o a w K Q else E := by
  have hw : Region.wanted o (yielded ops a.tmps) = true := by simp [Region.wanted, hgd]
  rw [if_pos hw]
  obtain ⟨i, hi, hzz⟩ := Option.map_eq_some_iff.1 hinfo
  simp only [Prod.mk.injEq] at hzz
  obtain ⟨hz, hsz, hb⟩ := hzz
  unfold Oper.wp execOp
  rcases hsrc with ⟨hl, ⟨rfl, rfl⟩ | ⟨b, of, rfl, hc⟩⟩
  · have hr := run_append_nothing (P := P) w base t o.type e i ht hi v n xs (by rw [hsz]; exact hown) c
    have hn : news = [] := List.eq_nil_of_length_eq_zero hl
    subst hn
    simp only [ho, resolve, invoke, builtin, Sem.run_bind, Sem.run_pure, Result.andThen_ok, List.map_toArray, List.map_cons, List.map_nil, hs, hx, hr]
    exact h v w (by simpa using hown) ⟨rfl, rfl, rfl, Nat.le_refl _, fun _ _ _ => rfl⟩
  · obtain ⟨v', w', hr, h2, h3, _⟩ := run_append_own (P := P) w base t o.type e i z 1 bytes ht hi hz hsz hb (by simp [hz1]) (by omega) v n xs hown ⟨b, of, none⟩ m c news (by omega) (fun j u hu => by
      have hj : j < m := by rw [← hl]; exact (List.getElem?_eq_some_iff.1 hu).1
      rw [addr_add, hc j hj, hu]) h1 h63 hbytes hbase
    simp only [ho, resolve, invoke, builtin, Sem.run_bind, Sem.run_pure, Result.andThen_ok, List.map_toArray, List.map_cons, List.map_nil, hs, hx, hr]
    exact h v' w' h2 h3
set_option maxHeartbeats 1000000 in
theorem uart_sent {w : World} {b : Nat} {u : UartS} {sn : Value} (h : UartAt w b u sn) (hs : u.sent.length < 1000000) :
    Calls Try.prog 67 #[.pointer (some ⟨b, 0, none⟩)] w (SentIs w u.sent) := by
  have c10 : w.cell? ⟨b, 10, none⟩ = some sn := blk_cell h.1 10
  have HC := Lib.hid c10
  have HLT : Hid (b < w.heap.size) := blk_lt h.1
  have HON : Hid (∀ x ∈ u.sent.map (Value.int .u8), x.oneCell' = true) := fun x hx => by
    simp only [List.mem_map] at hx
    obtain ⟨q, _, rfl⟩ := hx
    rfl
  have HBY : Hid ((0 + u.sent.length) * 1 ≤ 140737488355328) := by show _ ≤ _; omega
  have HMX : Hid (0 + u.sent.length ≤ maxLen) := by show _ ≤ _; unfold maxLen; omega
  have HF : Hid (∀ v W, W.ownsRow w.heap.size 5 1 v (0 + u.sent.length) ([] ++ u.sent.map (Value.int .u8)) → Below w.heap.size w W → SentIs w u.sent (.returned v) W) := fun v W hv hW => ⟨_, rfl, by simpa using hv, hW⟩
  obtain ⟨hl, ⟨rfl, h0⟩ | ⟨g, cap, cur, rfl, _, hg, hn, hcm, hcs, ht⟩⟩ := h.2
  · have HSRC : Hid (SrcIs w.drew none 0 ([] : List Value)) := ⟨rfl, .inl ⟨rfl, rfl⟩⟩
    have HF0 : Hid (∀ v W, W.ownsRow w.heap.size 5 1 v (0 + 0) ([] ++ []) → Below w.heap.size w W → SentIs w u.sent (.returned v) W) := fun v W hv hW => HF.out v W (by rw [List.eq_nil_of_length_eq_zero h0]; exact hv) hW
    have HZ := Lib.hid h0
    clear h hs hl h0
    go_enter Try.func67, Try.ntmps67
    go_wp2
    refine wp_region_held_drew (S := fun wq => wq.cell? ⟨b, 10, none⟩ = some (.slice none 0 0)) (by kernel_rfl) c10 (fun hH => ?_)
    refine wpAnyH_take (i := 0) (oi := ⟨some 5, _, _, _, _, _⟩) (v := ?_) rfl (by kernel_rfl) (by kernel_rfl) (by kernel_rfl) (fun _ _ _ h => h) (Or.inl ⟨by kernel_rfl, ?_⟩) hH ?_
    rotate_left 1
    · intro wq hq; have c0 := hq; first | (go_simp; done) | (go_simp; with_reducible rfl)
    simp only [Act.put, List.setIfInBounds_toArray, List.set_cons_zero, List.set_cons_succ]
    refine wpAnyH_take (i := 1) (oi := ⟨some 6, _, _, _, _, _⟩) (v := ?_) rfl (by kernel_rfl) (by kernel_rfl) (by kernel_rfl) (fun _ _ _ h => h) (Or.inl ⟨by kernel_rfl, ?_⟩) hH ?_
    rotate_left 1
    · intro wq hq; have c0 := hq; first | (go_simp; done) | (go_simp; with_reducible rfl)
    simp only [Act.put, List.setIfInBounds_toArray, List.set_cons_zero, List.set_cons_succ]
    refine wpAnyH_take (i := 2) (oi := ⟨some 7, _, _, _, _, _⟩) (v := ?_) rfl (by kernel_rfl) (by kernel_rfl) (by kernel_rfl) (fun _ _ _ h => h) (Or.inl ⟨by kernel_rfl, ?_⟩) hH ?_
    rotate_left 1
    · intro wq hq; have c0 := hq; first | (go_simp; done) | (go_simp; with_reducible rfl)
    simp only [Act.put, List.setIfInBounds_toArray, List.set_cons_zero, List.set_cons_succ]
    refine wpAnyH_take (i := 3) (oi := ⟨some 8, _, _, _, _, _⟩) (v := ?_) rfl (by kernel_rfl) (by kernel_rfl) (by kernel_rfl) (fun _ _ _ h => h) (Or.inl ⟨by kernel_rfl, ?_⟩) hH ?_
    rotate_left 1
    · intro wq hq; have c0 := hq; first | (go_simp; done) | (go_simp; with_reducible rfl)
    simp only [Act.put, List.setIfInBounds_toArray, List.set_cons_zero, List.set_cons_succ]
    refine wpAnyH_take (i := 4) (oi := ⟨some 9, _, _, _, _, _⟩) (v := ?_) rfl (by kernel_rfl) (by kernel_rfl) (by kernel_rfl) (fun _ _ _ h => h) (Or.inl ⟨by kernel_rfl, ?_⟩) hH ?_
    rotate_left 1
    · intro wq hq; have c0 := hq; first | (go_simp; done) | (go_simp; with_reducible rfl)
    simp only [Act.put, List.setIfInBounds_toArray, List.set_cons_zero, List.set_cons_succ]
    refine wpAnyH_take (i := 5) (oi := ⟨some 10, _, _, _, _, _⟩) (v := ?_) rfl (by kernel_rfl) (by kernel_rfl) (by kernel_rfl) (fun _ _ _ h => h) (Or.inl ⟨by kernel_rfl, ?_⟩) hH ?_
    rotate_left 1
    · intro wq hq; have c0 := hq; first | (go_simp; done) | (go_simp; with_reducible rfl)
    simp only [Act.put, List.setIfInBounds_toArray, List.set_cons_zero, List.set_cons_succ]
    refine wpAnyH_take (i := 6) (oi := ⟨some 11, _, _, _, _, _⟩) (v := ?_) rfl (by kernel_rfl) (by kernel_rfl) (by kernel_rfl) (fun _ _ _ h => h) (Or.inl ⟨by kernel_rfl, ?_⟩) hH ?_
    rotate_left 1
    · intro wq hq; have c0 := hq; first | (go_simp; done) | (go_simp; with_reducible rfl)
    simp only [Act.put, List.setIfInBounds_toArray, List.set_cons_zero, List.set_cons_succ]
    refine wpAnyH_take (i := 7) (oi := ⟨some 12, _, _, _, _, _⟩) (v := ?_) rfl (by kernel_rfl) (by kernel_rfl) (by kernel_rfl) (fun _ _ _ h => h) (Or.inl ⟨by kernel_rfl, ?_⟩) hH ?_
    rotate_left 1
    · intro wq hq; have c0 := hq; first | (go_simp; done) | (go_simp; with_reducible rfl)
    simp only [Act.put, List.setIfInBounds_toArray, List.set_cons_zero, List.set_cons_succ]
    refine wpAnyH_take (i := 8) (oi := ⟨some 13, _, _, _, _, _⟩) (v := ?_) rfl (by kernel_rfl) (by kernel_rfl) (by kernel_rfl) (fun _ _ _ h => h) (Or.inl ⟨by kernel_rfl, ?_⟩) hH ?_
    rotate_left 1
    · intro wq hq; have c0 := hq; first | (go_simp; done) | (go_simp; with_reducible rfl)
    simp only [Act.put, List.setIfInBounds_toArray, List.set_cons_zero, List.set_cons_succ]
    refine wpAnyH_take (i := 9) (oi := ⟨some 14, _, _, _, _, _⟩) (v := ?_) rfl (by kernel_rfl) (by kernel_rfl) (by kernel_rfl) (fun _ _ _ h => h) (Or.inl ⟨by kernel_rfl, ?_⟩) hH ?_
    rotate_left 1
    · intro wq hq; have c0 := hq; first | (go_simp; done) | (go_simp; with_reducible rfl)
    simp only [Act.put, List.setIfInBounds_toArray, List.set_cons_zero, List.set_cons_succ]
    refine wpAnyH_take (i := 10) (oi := ⟨some 15, _, _, _, _, _⟩) (v := ?_) rfl (by kernel_rfl) (by kernel_rfl) (by kernel_rfl) (fun _ _ _ h => h) (Or.inl ⟨by kernel_rfl, ?_⟩) hH ?_
    rotate_left 1
    · intro wq hq; have c0 := hq; first | (go_simp; done) | (go_simp; with_reducible rfl)
    simp only [Act.put, List.setIfInBounds_toArray, List.set_cons_zero, List.set_cons_succ]
    refine wpAnyH_take (i := 11) (oi := ⟨some 16, _, _, _, _, _⟩) (v := ?_) rfl (by kernel_rfl) (by kernel_rfl) (by kernel_rfl) (fun _ _ _ h => h) (Or.inl ⟨by kernel_rfl, ?_⟩) hH ?_
    rotate_left 1
    · intro wq hq; have c0 := hq; first | (go_simp; done) | (go_simp; with_reducible rfl)
    simp only [Act.put, List.setIfInBounds_toArray, List.set_cons_zero, List.set_cons_succ]
    refine wpAnyH_take (i := 12) (oi := ⟨some 17, _, _, _, _, _⟩) (v := ?_) rfl (by kernel_rfl) (by kernel_rfl) (by kernel_rfl) (fun _ _ _ h => h) (Or.inl ⟨by kernel_rfl, ?_⟩) hH ?_
    rotate_left 1
    · intro wq hq; have c0 := hq; first | (go_simp; done) | (go_simp; with_reducible rfl)
    simp only [Act.put, List.setIfInBounds_toArray, List.set_cons_zero, List.set_cons_succ]
    refine wpAnyH_take (i := 13) (oi := ⟨some 18, _, _, _, _, _⟩) (v := ?_) rfl (by kernel_rfl) (by kernel_rfl) (by kernel_rfl) (fun _ _ _ h => h) (Or.inl ⟨by kernel_rfl, ?_⟩) hH ?_
    rotate_left 1
    · intro wq hq; have c0 := hq; first | (go_simp; done) | (go_simp; with_reducible rfl)
    simp only [Act.put, List.setIfInBounds_toArray, List.set_cons_zero, List.set_cons_succ]
    refine wpAnyH_take (i := 14) (oi := ⟨some 19, _, _, _, _, _⟩) (v := ?_) rfl (by kernel_rfl) (by kernel_rfl) (by kernel_rfl) (fun _ _ _ h => h) (Or.inl ⟨by kernel_rfl, ?_⟩) hH ?_
    rotate_left 1
    · intro wq hq; have c0 := hq; first | (go_simp; done) | (go_simp; with_reducible rfl)
    simp only [Act.put, List.setIfInBounds_toArray, List.set_cons_zero, List.set_cons_succ]
    refine wpAnyH_ready (rs := [15]) (by kernel_rfl) (by simp) (AllReadyH.cons (o := ⟨some 20, _, _, _, _, _⟩) rfl (fun K hK => ?_) AllReadyH.nil)
    refine step_app rfl (.const (.slice none 0 0)) (.tmp 19) 37 rfl w.heap.size 5 (.int .u8 0) 1 Try.underlying37 A_info5 rfl (.slice none 0 0) 0 [] rfl (World.ownsRow_nil _ _ _ _) none 0 0 [] rfl HSRC.out (by simp) (by omega) (Nat.zero_le _) (by simp) ?_
    intro v' w1 hown hgrow
    have HO := Lib.hid hown
    have HBW : Hid (Below w.heap.size w w1) := (Below.refl w.heap.size w).drew.grown hgrow (by simp) (fun k e => nomatch e)
    refine hK.out _ _ ((HBW.out.cell (p := ⟨b, 10, none⟩) HLT.out).trans HC.out) (fun hH => ?_)
    clear hK K
    try simp only [Act.put, List.setIfInBounds_toArray, List.set_cons_zero, List.set_cons_succ]
    refine wpAnyH_take (i := 16) (oi := ⟨some 2, _, _, _, _, _⟩) (v := ?_) rfl (by kernel_rfl) (by kernel_rfl) (by kernel_rfl) (fun _ _ _ h => h) (Or.inl ⟨by kernel_rfl, ?_⟩) hH ?_
    rotate_left 1
    · intro wq hq; have c0 := hq; first | (go_simp; done) | (go_simp; with_reducible rfl)
    simp only [Act.put, List.setIfInBounds_toArray, List.set_cons_zero, List.set_cons_succ]
    refine wpAnyH_done (by kernel_rfl) ?_ _
    go_wp2
    go_ret
    exact HF0.out _ _ HO.out HBW.out
  · have HSRC : Hid (SrcIs w.drew (some ⟨g, 0, none⟩) u.sent.length (u.sent.map (Value.int .u8))) := ⟨by simp, .inr ⟨g, 0, rfl, fun i hi => by
      show w.cell? ⟨g, 0 + i, none⟩ = _
      rw [Nat.zero_add, blk_cell hg i, ← ht, List.getElem?_take_of_lt (by omega), Array.getElem?_toList]⟩⟩
    have hnc : (u.sent.length : Int) ≤ cap := by omega
    clear h hs hl hg hcs ht hn hcm
    go_enter Try.func67, Try.ntmps67
    go_wp2
    refine wp_region_held_drew (S := fun wq => wq.cell? ⟨b, 10, none⟩ = some (.slice (some ⟨g, 0, none⟩) u.sent.length cap)) (by kernel_rfl) c10 (fun hH => ?_)
    refine wpAnyH_take (i := 0) (oi := ⟨some 5, _, _, _, _, _⟩) (v := ?_) rfl (by kernel_rfl) (by kernel_rfl) (by kernel_rfl) (fun _ _ _ h => h) (Or.inl ⟨by kernel_rfl, ?_⟩) hH ?_
    rotate_left 1
    · intro wq hq; have c0 := hq; first | (go_simp; done) | (go_simp; with_reducible rfl)
    simp only [Act.put, List.setIfInBounds_toArray, List.set_cons_zero, List.set_cons_succ]
    refine wpAnyH_take (i := 1) (oi := ⟨some 6, _, _, _, _, _⟩) (v := ?_) rfl (by kernel_rfl) (by kernel_rfl) (by kernel_rfl) (fun _ _ _ h => h) (Or.inl ⟨by kernel_rfl, ?_⟩) hH ?_
    rotate_left 1
    · intro wq hq; have c0 := hq; first | (go_simp; done) | (go_simp; with_reducible rfl)
    simp only [Act.put, List.setIfInBounds_toArray, List.set_cons_zero, List.set_cons_succ]
    refine wpAnyH_take (i := 2) (oi := ⟨some 7, _, _, _, _, _⟩) (v := ?_) rfl (by kernel_rfl) (by kernel_rfl) (by kernel_rfl) (fun _ _ _ h => h) (Or.inl ⟨by kernel_rfl, ?_⟩) hH ?_
    rotate_left 1
    · intro wq hq; have c0 := hq; first | (go_simp; done) | (go_simp; with_reducible rfl)
    simp only [Act.put, List.setIfInBounds_toArray, List.set_cons_zero, List.set_cons_succ]
    refine wpAnyH_take (i := 3) (oi := ⟨some 8, _, _, _, _, _⟩) (v := ?_) rfl (by kernel_rfl) (by kernel_rfl) (by kernel_rfl) (fun _ _ _ h => h) (Or.inl ⟨by kernel_rfl, ?_⟩) hH ?_
    rotate_left 1
    · intro wq hq; have c0 := hq; first | (go_simp; done) | (go_simp; with_reducible rfl)
    simp only [Act.put, List.setIfInBounds_toArray, List.set_cons_zero, List.set_cons_succ]
    refine wpAnyH_take (i := 4) (oi := ⟨some 9, _, _, _, _, _⟩) (v := ?_) rfl (by kernel_rfl) (by kernel_rfl) (by kernel_rfl) (fun _ _ _ h => h) (Or.inl ⟨by kernel_rfl, ?_⟩) hH ?_
    rotate_left 1
    · intro wq hq; have c0 := hq; first | (go_simp; done) | (go_simp; with_reducible rfl)
    simp only [Act.put, List.setIfInBounds_toArray, List.set_cons_zero, List.set_cons_succ]
    refine wpAnyH_take (i := 5) (oi := ⟨some 10, _, _, _, _, _⟩) (v := ?_) rfl (by kernel_rfl) (by kernel_rfl) (by kernel_rfl) (fun _ _ _ h => h) (Or.inl ⟨by kernel_rfl, ?_⟩) hH ?_
    rotate_left 1
    · intro wq hq; have c0 := hq; first | (go_simp; done) | (go_simp; with_reducible rfl)
    simp only [Act.put, List.setIfInBounds_toArray, List.set_cons_zero, List.set_cons_succ]
    refine wpAnyH_take (i := 6) (oi := ⟨some 11, _, _, _, _, _⟩) (v := ?_) rfl (by kernel_rfl) (by kernel_rfl) (by kernel_rfl) (fun _ _ _ h => h) (Or.inl ⟨by kernel_rfl, ?_⟩) hH ?_
    rotate_left 1
    · intro wq hq; have c0 := hq; first | (go_simp; done) | (go_simp; with_reducible rfl)
    simp only [Act.put, List.setIfInBounds_toArray, List.set_cons_zero, List.set_cons_succ]
    refine wpAnyH_take (i := 7) (oi := ⟨some 12, _, _, _, _, _⟩) (v := ?_) rfl (by kernel_rfl) (by kernel_rfl) (by kernel_rfl) (fun _ _ _ h => h) (Or.inl ⟨by kernel_rfl, ?_⟩) hH ?_
    rotate_left 1
    · intro wq hq; have c0 := hq; first | (go_simp; done) | (go_simp; with_reducible rfl)
    simp only [Act.put, List.setIfInBounds_toArray, List.set_cons_zero, List.set_cons_succ]
    refine wpAnyH_take (i := 8) (oi := ⟨some 13, _, _, _, _, _⟩) (v := ?_) rfl (by kernel_rfl) (by kernel_rfl) (by kernel_rfl) (fun _ _ _ h => h) (Or.inl ⟨by kernel_rfl, ?_⟩) hH ?_
    rotate_left 1
    · intro wq hq; have c0 := hq; first | (go_simp; done) | (go_simp; with_reducible rfl)
    simp only [Act.put, List.setIfInBounds_toArray, List.set_cons_zero, List.set_cons_succ]
    refine wpAnyH_take (i := 9) (oi := ⟨some 14, _, _, _, _, _⟩) (v := ?_) rfl (by kernel_rfl) (by kernel_rfl) (by kernel_rfl) (fun _ _ _ h => h) (Or.inl ⟨by kernel_rfl, ?_⟩) hH ?_
    rotate_left 1
    · intro wq hq; have c0 := hq; first | (go_simp; done) | (go_simp; with_reducible rfl)
    simp only [Act.put, List.setIfInBounds_toArray, List.set_cons_zero, List.set_cons_succ]
    refine wpAnyH_take (i := 10) (oi := ⟨some 15, _, _, _, _, _⟩) (v := ?_) rfl (by kernel_rfl) (by kernel_rfl) (by kernel_rfl) (fun _ _ _ h => h) (Or.inl ⟨by kernel_rfl, ?_⟩) hH ?_
    rotate_left 1
    · intro wq hq; have c0 := hq; first | (go_simp; done) | (go_simp; with_reducible rfl)
    simp only [Act.put, List.setIfInBounds_toArray, List.set_cons_zero, List.set_cons_succ]
    refine wpAnyH_take (i := 11) (oi := ⟨some 16, _, _, _, _, _⟩) (v := ?_) rfl (by kernel_rfl) (by kernel_rfl) (by kernel_rfl) (fun _ _ _ h => h) (Or.inl ⟨by kernel_rfl, ?_⟩) hH ?_
    rotate_left 1
    · intro wq hq; have c0 := hq; first | (go_simp; done) | (go_simp; with_reducible rfl)
    simp only [Act.put, List.setIfInBounds_toArray, List.set_cons_zero, List.set_cons_succ]
    refine wpAnyH_take (i := 12) (oi := ⟨some 17, _, _, _, _, _⟩) (v := ?_) rfl (by kernel_rfl) (by kernel_rfl) (by kernel_rfl) (fun _ _ _ h => h) (Or.inl ⟨by kernel_rfl, ?_⟩) hH ?_
    rotate_left 1
    · intro wq hq; have c0 := hq; first | (go_simp; done) | (go_simp; with_reducible rfl)
    simp only [Act.put, List.setIfInBounds_toArray, List.set_cons_zero, List.set_cons_succ]
    refine wpAnyH_take (i := 13) (oi := ⟨some 18, _, _, _, _, _⟩) (v := ?_) rfl (by kernel_rfl) (by kernel_rfl) (by kernel_rfl) (fun _ _ _ h => h) (Or.inl ⟨by kernel_rfl, ?_⟩) hH ?_
    rotate_left 1
    · intro wq hq; have c0 := hq; first | (go_simp; done) | (go_simp; with_reducible rfl)
    simp only [Act.put, List.setIfInBounds_toArray, List.set_cons_zero, List.set_cons_succ]
    refine wpAnyH_take (i := 14) (oi := ⟨some 19, _, _, _, _, _⟩) (v := ?_) rfl (by kernel_rfl) (by kernel_rfl) (by kernel_rfl) (fun _ _ _ h => h) (Or.inl ⟨by kernel_rfl, ?_⟩) hH ?_
    rotate_left 1
    · intro wq hq; have c0 := hq; first | (go_simp; done) | (go_simp; with_reducible rfl)
    simp only [Act.put, List.setIfInBounds_toArray, List.set_cons_zero, List.set_cons_succ]
    refine wpAnyH_ready (rs := [15]) (by kernel_rfl) (by simp) (AllReadyH.cons (o := ⟨some 20, _, _, _, _, _⟩) rfl (fun K hK => ?_) AllReadyH.nil)
    refine step_app rfl (.const (.slice none 0 0)) (.tmp 19) 37 rfl w.heap.size 5 (.int .u8 0) 1 Try.underlying37 A_info5 rfl (.slice none 0 0) 0 [] rfl (World.ownsRow_nil _ _ _ _) (some ⟨g, 0, none⟩) u.sent.length u.sent.length (u.sent.map (Value.int .u8)) rfl HSRC.out HON.out HBY.out HMX.out (by simp) ?_
    intro v' w1 hown hgrow
    have HO := Lib.hid hown
    have HBW : Hid (Below w.heap.size w w1) := (Below.refl w.heap.size w).drew.grown hgrow (by simp) (fun k e => nomatch e)
    refine hK.out _ _ ((HBW.out.cell (p := ⟨b, 10, none⟩) HLT.out).trans HC.out) (fun hH => ?_)
    clear hK K
    try simp only [Act.put, List.setIfInBounds_toArray, List.set_cons_zero, List.set_cons_succ]
    refine wpAnyH_take (i := 16) (oi := ⟨some 2, _, _, _, _, _⟩) (v := ?_) rfl (by kernel_rfl) (by kernel_rfl) (by kernel_rfl) (fun _ _ _ h => h) (Or.inl ⟨by kernel_rfl, ?_⟩) hH ?_
    rotate_left 1
    · intro wq hq; have c0 := hq; first | (go_simp; done) | (go_simp; with_reducible rfl)
    simp only [Act.put, List.setIfInBounds_toArray, List.set_cons_zero, List.set_cons_succ]
    refine wpAnyH_done (by kernel_rfl) ?_ _
    go_wp2
    go_ret
    exact HF.out _ _ HO.out HBW.out
end Go.Proofs.Ytefcdbpmpnmkjaa
end
