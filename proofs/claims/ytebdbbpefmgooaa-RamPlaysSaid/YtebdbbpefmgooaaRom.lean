/- The ROM's functions, walked: what each call answers and leaves. Condition: none. -/
import Derived.Test.YtebdbbpefmgooaaLib
set_option linter.unusedVariables false
set_option linter.unusedSimpArgs false
namespace Go.Proofs.Ytebdbbpefmgooaa
open Go.RowKit

def romW (i : Nat) : Int := [663, 33719699, 4047512947, 25342595, 163943, 0, 2147483648, 0].getD i 0
def romAt (k : Nat) : Int := if k < 32 then romW (k / 4) / 2 ^ (8 * (k % 4)) % 256 else 0
def romArr (n : Nat) : Array Value := ((List.range 4096).map fun k => Value.int .u8 (if k < n then romAt k else 0)).toArray
theorem romArr_get (n k : Nat) (h : k < 4096) : (romArr n)[k]? = some (.int .u8 (if k < n then romAt k else 0)) := by
  unfold romArr
  simp [h]
theorem romArr0 : madeCells #[(.int .u8 0)] 4096 = romArr 0 := by
  unfold madeCells romArr
  apply Array.ext'
  simp [Array.toList_range]
  intro a ha
  simp [Nat.mod_one]
theorem romArr_set (n : Nat) (v : Int) (h : n < 4096) (hv : v = romAt n) : (romArr n).setIfInBounds n (.int .u8 v) = romArr (n+1) := by
  unfold romArr
  apply Array.ext'
  apply List.ext_getElem
  · simp
  intro i h1 h2
  simp [List.getElem_set]
  by_cases hi : n = i
  · subst hi; simp [hv]
  · simp only [hi, if_false]
    have e : i < n ↔ i < n + 1 := by omega
    simp [e]
theorem romW_step (n k : Nat) (hk : k < 4) (hn : n < 8) : romW n / 2 ^ (8 * k) % 256 = romAt (4 * n + k) := by
  unfold romAt
  rw [if_pos (by omega), show (4 * n + k) / 4 = n by omega, show (4 * n + k) % 4 = k by omega]
theorem romAt_bd (k : Nat) : 0 ≤ romAt k ∧ romAt k ≤ 255 := by
  unfold romAt
  split
  · omega
  · omega
theorem rom_make (w : World) : (Instr.makeSlice 23 (.int .i64 4096) (.int .i64 4096)).run Try.prog w = .ok (.slice (some ⟨w.heap.size, 0, none⟩) 4096 4096) (w.alloc (.cells (romArr 0) 5)) := by
  have h := run_make_row' (P := Try.prog) 23 5 (.int .u8 0) 1 Try.underlying23 A_info5 rfl .i64 .i64 4096 (by omega) (by omega) w
  rw [romArr0] at h
  exact h
theorem rom_index : ∀ (n : Nat) (h : n < 8) (w : World), (Instr.index 56 (.agg #[Value.int IntKind.u32 663, Value.int IntKind.u32 33719699, Value.int IntKind.u32 4047512947,
    Value.int IntKind.u32 25342595, Value.int IntKind.u32 163943, Value.int IntKind.u32 0,
    Value.int IntKind.u32 2147483648, Value.int IntKind.u32 0]) (.int .i64 n)).run Try.prog w = .ok (.int .u32 (romW n)) w
  | 0, _, _ => by kernel_rfl
  | 1, _, _ => by kernel_rfl
  | 2, _, _ => by kernel_rfl
  | 3, _, _ => by kernel_rfl
  | 4, _, _ => by kernel_rfl
  | 5, _, _ => by kernel_rfl
  | 6, _, _ => by kernel_rfl
  | 7, _, _ => by kernel_rfl
  | n + 8, h, _ => absurd h (by omega)

set_option maxHeartbeats 1000000 in
theorem rom_bytes (w : World) :
    Calls Try.prog 15 #[] w fun e w' => e = .returned (.slice (some ⟨w.heap.size + 1, 0, none⟩) 4096 4096) ∧ w'.heap[w.heap.size + 1]? = some (.cells (romArr 32) 5 (0,0)) ∧ Below w.heap.size w w' := by
  have hmk := rom_make
  go_enter Try.func15, Try.ntmps15
  go_wp2_with fail
  clear hmk
  go_loopw [9] (fun i wr => ∃ n : Nat, n ≤ 8 ∧ i = .int .i64 n ∧ wr.heap[w.heap.size + 1]? = some (.cells (romArr (4*n)) 5 (0,0)) ∧ Below w.heap.size w wr) (fun i _ => 8 - (intOf i).toNat)
  case atStart => exact ⟨0, by omega, rfl, by simpa using blk_alloc (w.alloc _) _, ((Below.refl _ _).alloc (Nat.le_refl _) _).alloc (by simp) _⟩
  case round =>
    obtain ⟨n, hn, rfl, hh, hb⟩ := hrel
    by_cases hlt : n < 8
    · have hix := rom_index n hlt
      go_wp2_with fail
      clear hix
      go_loopw [13] (fun k wr => ∃ m : Nat, m ≤ 4 ∧ k = .int .i64 m ∧ wr.heap[w.heap.size + 1]? = some (.cells (romArr (4*n+m)) 5 (0,0)) ∧ Below w.heap.size w wr) (fun i _ => 4 - (intOf i).toNat)
      case atStart => exact ⟨0, by omega, rfl, hh, hb⟩
      case round =>
        clear hh hb
        obtain ⟨m, hm, rfl, hh, hb⟩ := hrel
        by_cases hl2 : m < 4
        · have hc := (blk_cell hh (4*n+m)).trans (romArr_get _ _ (by omega))
          have hf := blk_frozen hh (4*n+m)
          have H : Hid ((wr.setCell ⟨w.heap.size + 1, 4*n+m, none⟩ (.int .u8 (romW n / 2 ^ (8 * m) % 256))).heap[w.heap.size + 1]? = some (.cells (romArr (4*n+(m+1))) 5 (0,0))) := by
            have h1 := blk_set hh (4*n+m) (.int .u8 (romW n / 2 ^ (8 * m) % 256))
            rw [romArr_set _ _ (by omega) (romW_step n m hl2 hlt)] at h1
            exact h1
          have HB : Hid (Below w.heap.size w (wr.setCell ⟨w.heap.size + 1, 4*n+m, none⟩ (.int .u8 (romW n / 2 ^ (8 * m) % 256)))) := hb.setCell (by simp) _
          clear hh hb
          go_wp2_with fail
          go_roundw
          case rel => exact ⟨m + 1, by omega, by go_num, H.out, HB.out⟩
          case measure => simp [intOf]; omega
        · have hm4 : m = 4 := by omega
          have HH : Hid (wr.heap[w.heap.size + 1]? = some (.cells (romArr (4*(n+1))) 5 (0,0))) := by
            rw [show 4 * (n+1) = 4*n+m by omega]; exact hh
          have HB : Hid (Below w.heap.size w wr) := hb
          clear hh hb hm4
          go_wp2_with fail
          go_roundw
          case rel => exact ⟨n + 1, by omega, by go_num, HH.out, HB.out⟩
          case measure => simp [intOf]; omega
    · go_wp2_with fail
      go_ret
      exact ⟨rfl, by simpa [show n = 8 by omega] using hh, hb⟩
theorem rom_list : ∀ (n : Nat) (h : n < 8), ([Value.int IntKind.u32 663, Value.int IntKind.u32 33719699, Value.int IntKind.u32 4047512947,
    Value.int IntKind.u32 25342595, Value.int IntKind.u32 163943, Value.int IntKind.u32 0,
    Value.int IntKind.u32 2147483648, Value.int IntKind.u32 0] : List Value)[n]? = some (.int .u32 (romW n))
  | 0, _ => rfl
  | 1, _ => rfl
  | 2, _ => rfl
  | 3, _ => rfl
  | 4, _ => rfl
  | 5, _ => rfl
  | 6, _ => rfl
  | 7, _ => rfl
  | n + 8, h => absurd h (by omega)

set_option maxHeartbeats 1000000 in
theorem ref_at (k : Int) (h0 : 0 ≤ k) (w : World) :
    Calls Try.prog 22 #[.int .i64 k] w fun e w' => e = .returned (.int .u8 (romAt k.toNat)) ∧ Below w.heap.size w w' := by
  obtain ⟨n, rfl⟩ := Int.eq_ofNat_of_zero_le h0
  by_cases h : n < 32
  · have hl := rom_list (n / 4) (by omega)
    have hr : Hid (romW (n / 4) / 2 ^ (8 * (n % 4)) % 256 = romAt n) := by unfold romAt; rw [if_pos h]; rfl
    go_enter Try.func22, Try.ntmps22
    go_wp2
    go_ret
    exact ⟨ret_int hr.out, (Below.refl _ _).alloc (Nat.le_refl _) _⟩
  · have hr : Hid (romAt n = 0) := by unfold romAt; rw [if_neg h]; rfl
    go_enter Try.func22, Try.ntmps22
    go_wp2
    go_ret
    exact ⟨ret_int hr.out.symm, (Below.refl _ _).alloc (Nat.le_refl _) _⟩
/-- the slice at a, of len bytes, reads as l. -/
structure IsB (w : World) (a : Option Addr) (len : Nat) (l : List Int) : Prop where
  hlen : l.length = len
  bd : ∀ x ∈ l, 0 ≤ x ∧ x ≤ 255
  cell : (a = none ∧ len = 0) ∨ ∃ b o, a = some ⟨b, o, none⟩ ∧ ∀ i, i < len → w.cell? ⟨b, o + i, none⟩ = some (.int .u8 (l.getD i 0))

theorem strOfNums_inj (l1 l2 : List Int) (h1 : ∀ x ∈ l1, 0 ≤ x ∧ x ≤ 255) (h2 : ∀ x ∈ l2, 0 ≤ x ∧ x ≤ 255) :
    (l1.map fun n => UInt8.ofNat n.toNat) = (l2.map fun n => UInt8.ofNat n.toNat) ↔ l1 = l2 := by
  constructor
  · intro h
    induction l1 generalizing l2 with
    | nil => cases l2 <;> simp_all
    | cons x l1 ih =>
      cases l2 with
      | nil => simp at h
      | cons y l2 =>
        simp only [List.map_cons, List.cons.injEq] at h
        have hx := h1 x (by simp)
        have hy := h2 y (by simp)
        have e := congrArg UInt8.toNat h.1
        simp at e
        have : x = y := by omega
        rw [this, ih l2 (fun z hz => h1 z (by simp [hz])) (fun z hz => h2 z (by simp [hz])) h.2]
  · intro h; rw [h]

/-- bytes l1, l2 alike, as the call of same.Bytes answers it. -/
def eqB (l1 l2 : List Int) : Bool := decide (l1 = l2)

theorem eqB_str (l1 l2 : List Int) (b1 : ∀ x ∈ l1, 0 ≤ x ∧ x ≤ 255) (b2 : ∀ x ∈ l2, 0 ≤ x ∧ x ≤ 255) : ((strOfNums l1).toList == (strOfNums l2).toList) = eqB l1 l2 := by
  unfold eqB
  rw [ByteArray.toList_eq, ByteArray.toList_eq, strOfNums_data, strOfNums_data, Bool.eq_iff_iff]
  simp [strOfNums_inj l1 l2 b1 b2]
theorem run_bytes_str {w : World} {a : Option Addr} {n : Nat} {l : List Int} (h : IsB w a n l) (c : Nat) :
    (convert 23 9 (.slice a n c)).run Try.prog w = .ok (.string (strOfNums l)) w := by
  obtain ⟨e, _, h⟩ := h
  rcases h with ⟨rfl, rfl⟩ | ⟨B, o, rfl, h⟩
  · have := run_convert_bytes_nil w (P := Try.prog) 23 5 Try.underlying23 Try.underlying5 0 c 9 Try.underlying9
    rw [List.eq_nil_of_length_eq_zero e]
    exact this
  · exact run_convert_bytes_arg w (P := Try.prog) 23 5 Try.underlying23 Try.underlying5 B o n c l e h 9 Try.underlying9
set_option maxHeartbeats 400000 in
theorem same_bytes (a1 a2 : Option Addr) (n1 n2 c1 c2 : Nat) (l1 l2 : List Int) (w : World) (h1 : IsB w a1 n1 l1) (h2 : IsB w a2 n2 l2) :
    Calls Try.prog 19 #[.slice a1 n1 c1, .slice a2 n2 c2] w fun e w' => e = .returned (.bool (eqB l1 l2)) ∧ w = w' := by
  have fin : Hid (((strOfNums l1).toList == (strOfNums l2).toList) = eqB l1 l2) := eqB_str l1 l2 h1.bd h2.bd
  have k1 := run_bytes_str h1 c1
  have k2 := run_bytes_str h2 c2
  clear h1 h2
  go_enter Try.func19, Try.ntmps19
  go_wp2
  go_ret
  exact ⟨ret_bool fin.out, rfl⟩

/-- a stretch of the ROM -/
def romL (off n : Nat) : List Int := (List.range n).map fun i => romAt (off + i)
theorem romL_len (off n : Nat) : (romL off n).length = n := by simp [romL]
theorem romL_get (off n i : Nat) (h : i < n) : (romL off n).getD i 0 = romAt (off + i) := by simp [romL, List.getD, h]
theorem romL_snoc (off n : Nat) : romL off (n + 1) = romL off n ++ [romAt (off + n)] := by simp [romL, List.range_succ]
theorem romL_bd (off n : Nat) : ∀ x ∈ romL off n, 0 ≤ x ∧ x ≤ 255 := by
  intro x hx
  simp [romL] at hx
  obtain ⟨i, _, rfl⟩ := hx
  exact romAt_bd _
theorem romAt32 (k : Nat) : (if k < 32 then romAt k else 0) = romAt k := by
  unfold romAt; split <;> simp_all
theorem bytes_own {w : World} {base : Nat} {v : Value} {n : Nat} {l : List Int} (h : w.ownsRow base 5 1 v n (l.map (Value.int .u8))) (hb : ∀ x ∈ l, 0 ≤ x ∧ x ≤ 255) :
    ∃ a c, v = .slice a n c ∧ IsB w a n l := by
  have hl : l.length = n := by have := h.1; simpa using this
  rcases h.2 with ⟨rfl, rfl⟩ | ⟨g, cap, cur, rfl, hg, hh, hn, hm, hs, ht⟩
  · exact ⟨none, 0, rfl, hl, hb, .inl ⟨rfl, rfl⟩⟩
  · refine ⟨_, _, rfl, hl, hb, .inr ⟨g, 0, rfl, fun i hi => ?_⟩⟩
    have hc := h.cells (g := g) rfl i (.int .u8 (l.getD i 0)) (by simp [List.getD, hl, hi])
    have hadd : (⟨g, 0, none⟩ : Addr).add i = ⟨g, 0 + i, none⟩ := by unfold Addr.add; split <;> simp_all
    rw [hadd] at hc
    exact hc


/-- it answered the bytes l and no error, and turned nothing that was there -/
def BytesOk (w : World) (n : Nat) (l : List Int) (e : Ending) (w' : World) : Prop := ∃ a c, e = .returned (.tuple #[.slice a n c, .int .i64 0]) ∧ IsB w' a n l ∧ Below w.heap.size w w'
set_option maxRecDepth 100000 in
set_option maxHeartbeats 1000000 in
theorem rom_read (off n : Nat) (h : off + n ≤ 4096) (w : World) :
    Calls Try.prog 16 #[.int .u64 off, .int .i64 n] w (BytesOk w n (romL off n)) := by
  have h1 : (off : Int) ≤ 4096 := by omega
  have h2 : (n : Int) ≤ 4096 - off := by omega
  have H := Lib.hid h; clear h
  go_enter Try.func16, Try.ntmps16
  go_wp2_with fail
  refine (rom_bytes w).mono ?_
  rintro e w1 ⟨rfl, hh, hb⟩
  have HH := Lib.hid hh; have HB := Lib.hid hb; clear hh hb
  have hsrc : Hid (SrcIs w1 (if 4096 = off then some { block := w.heap.size + 1, off := 0 } else some { block := w.heap.size + 1, off := off }) (off + n - off) ((romL off n).map (Value.int .u8))) := by
    have := H.out
    refine ⟨by rw [List.length_map, romL_len]; omega, .inr ⟨w.heap.size + 1, if 4096 = off then 0 else off, by split <;> rfl, fun i hi => ?_⟩⟩
    rw [if_neg (by omega), blk_cell HH.out, romArr_get _ _ (by omega), romAt32, List.getElem?_map, List.getElem?_eq_getElem (by rw [romL_len]; omega)]
    simp [romL]
  have hone : Hid (∀ u ∈ (romL off n).map (Value.int .u8), u.oneCell' = true) := by intro u hu; simp at hu; obtain ⟨_, _, rfl⟩ := hu; rfl
  have hby : Hid ((0 + (off + n - off)) * 1 ≤ 140737488355328) := by have := H.out; show _ ≤ _; omega
  have h63 : Hid (0 + (off + n - off) ≤ maxLen) := by have := H.out; show _ ≤ _; unfold maxLen; omega
  go_wp2_with (at_builtin; refine wpList_app rfl _ _ 23 rfl w.heap.size 5 (.int .u8 0) 1 Try.underlying23 A_info5 rfl (.slice none 0 0) 0 [] rfl (World.ownsRow_nil _ _ _ _) _ _ _ ((romL off n).map (Value.int .u8)) rfl hsrc.out hone.out hby.out h63.out HB.out.size ?_; intro v' w2 hown hg _)
  all_goals
    have HO : BytesOk w n (romL off n) (.returned (.tuple #[v', .int .i64 0])) w2 := by
      rw [show 0 + (off + n - off) = n by omega] at hown
      obtain ⟨a, c, rfl, hb⟩ := bytes_own hown (romL_bd off n)
      exact ⟨a, c, rfl, hb, HB.out.grown hg HB.out.size (by intro k hk; cases hk)⟩
    go_ret2
    exact HO

end Go.Proofs.Ytebdbbpefmgooaa
