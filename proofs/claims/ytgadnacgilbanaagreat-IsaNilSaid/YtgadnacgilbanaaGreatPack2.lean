/- The ROM's functions, walked: what each call answers and leaves. Condition: none. Contracts of ram.New, Pages, Read. No condition. Contracts of bits.Word, Bytes, Aligned. No condition. Slices of numbers and of bools that came in as arguments: what their cells hold, and how great they may be. No condition. Contracts of ram.New, Some, Write. No condition. Contracts of ram.New, Write, Word, Put. No condition. Contracts of ram.New, Word, Put. No condition. RamNil: the walk. No condition. Contracts of the functions of the ROM and of its law: what each call answers and leaves. No condition. The PLIC's state as data (plain Lean; no walk). No condition. What is written into the PLIC's registers, as numbers (plain Lean). No condition. Rules by which the walk loads and stores a whole struct in one step: a block told by its row of cells. No condition. Contracts of tappethelp.Own, Same, Plain, Kept, CopyBytes. No condition. Bytes and bools that came in, as the walks take them. No condition. RomLoads: the walk. No condition. -/
import Derived.Test.YtgadnacgilbanaaGreatPack1
import Derived.StillTailTactics
import Derived.BigRegion
import Derived.Deep.RegionWith
import Derived.Deep.RegionHeld3
import Derived.Deep.QuietTactic
import Derived.BigQuiet
import Derived.Deep.LoopGhost
import Derived.Deep.DeepCutAuto
import Derived.Deep.DeepFit
import Derived.Deep.DeepMust
import Derived.Handy
import Derived.WalkKit
import Derived.OpenShut
import Derived.ChangeOld
import Derived.SizedLaws
import Derived.ChangeSlices
import Derived.Deep.Grids
import Derived.Deep.OwnRows
section
set_option linter.unusedVariables false
set_option linter.unusedSimpArgs false
namespace Go.Proofs.YtgadnacgilbanaaGreat
open Go.RowKit

def romW (i : Nat) : Int := [663, 33719699, 4047512947, 25342595, 163943, 0, 2147483648, 0].getD i 0
def romAt (k : Nat) : Int := if k < 32 then romW (k / 4) / 2 ^ (8 * (k % 4)) % 256 else 0
def romArr (n : Nat) : Array Value := ((List.range 4096).map fun k => Value.int .u8 (if k < n then romAt k else 0)).toArray
theorem romArr_get (n k : Nat) (h : k < 4096) : (romArr n)[k]? = some (.int .u8 (if k < n then romAt k else 0)) := by
  unfold romArr
  simp [h]
theorem romArr0 : madeCells #[(.int .u8 0)] 4096 = romArr 0 := by
  unfold madeCells romArr
  apply Array.ext'
  simp [Array.toList_range]
  intro a ha
  simp [Nat.mod_one]
theorem romArr_set (n : Nat) (v : Int) (h : n < 4096) (hv : v = romAt n) : (romArr n).setIfInBounds n (.int .u8 v) = romArr (n+1) := by
  unfold romArr
  apply Array.ext'
  apply List.ext_getElem
  · simp
  intro i h1 h2
  simp [List.getElem_set]
  by_cases hi : n = i
  · subst hi; simp [hv]
  · simp only [hi, if_false]
    have e : i < n ↔ i < n + 1 := by omega
    simp [e]
theorem romW_step (n k : Nat) (hk : k < 4) (hn : n < 8) : romW n / 2 ^ (8 * k) % 256 = romAt (4 * n + k) := by
  unfold romAt
  rw [if_pos (by omega), show (4 * n + k) / 4 = n by omega, show (4 * n + k) % 4 = k by omega]
theorem romAt_bd (k : Nat) : 0 ≤ romAt k ∧ romAt k ≤ 255 := by
  unfold romAt
  split
  · omega
  · omega
theorem rom_make (w : World) : (Instr.makeSlice 33 (.int .i64 4096) (.int .i64 4096)).run Tryz.prog w = .ok (.slice (some ⟨w.heap.size, 0, none⟩) 4096 4096) (w.alloc (.cells (romArr 0) 5)) := by
  have h := run_make_row' (P := Tryz.prog) 33 5 (.int .u8 0) 1 Tryz.underlying33 A_info5 rfl .i64 .i64 4096 (by omega) (by omega) w
  rw [romArr0] at h
  exact h
theorem rom_index : ∀ (n : Nat) (h : n < 8) (w : World), (Instr.index 175 (.agg #[Value.int IntKind.u32 663, Value.int IntKind.u32 33719699, Value.int IntKind.u32 4047512947,
    Value.int IntKind.u32 25342595, Value.int IntKind.u32 163943, Value.int IntKind.u32 0,
    Value.int IntKind.u32 2147483648, Value.int IntKind.u32 0]) (.int .i64 n)).run Tryz.prog w = .ok (.int .u32 (romW n)) w
  | 0, _, _ => by kernel_rfl
  | 1, _, _ => by kernel_rfl
  | 2, _, _ => by kernel_rfl
  | 3, _, _ => by kernel_rfl
  | 4, _, _ => by kernel_rfl
  | 5, _, _ => by kernel_rfl
  | 6, _, _ => by kernel_rfl
  | 7, _, _ => by kernel_rfl
  | n + 8, h, _ => absurd h (by omega)

set_option maxHeartbeats 1000000 in
theorem rom_bytes (w : World) :
    Calls Tryz.prog 124 #[] w fun e w' => e = .returned (.slice (some ⟨w.heap.size + 1, 0, none⟩) 4096 4096) ∧ w'.heap[w.heap.size + 1]? = some (.cells (romArr 32) 5 (0,0)) ∧ Below w.heap.size w w' := by
  have hmk := rom_make
  go_enter Tryz.func124, Tryz.ntmps124
  go_wp2_with fail
  clear hmk
  go_loopw [9] (fun i wr => ∃ n : Nat, n ≤ 8 ∧ i = .int .i64 n ∧ wr.heap[w.heap.size + 1]? = some (.cells (romArr (4*n)) 5 (0,0)) ∧ Below w.heap.size w wr) (fun i _ => 8 - (intOf i).toNat)
  case atStart => exact ⟨0, by omega, rfl, by simpa using blk_alloc (w.alloc _) _, ((Below.refl _ _).alloc (Nat.le_refl _) _).alloc (by simp) _⟩
  case round =>
    obtain ⟨n, hn, rfl, hh, hb⟩ := hrel
    by_cases hlt : n < 8
    · have hix := rom_index n hlt
      go_wp2_with fail
      clear hix
      go_loopw [13] (fun k wr => ∃ m : Nat, m ≤ 4 ∧ k = .int .i64 m ∧ wr.heap[w.heap.size + 1]? = some (.cells (romArr (4*n+m)) 5 (0,0)) ∧ Below w.heap.size w wr) (fun i _ => 4 - (intOf i).toNat)
      case atStart => exact ⟨0, by omega, rfl, hh, hb⟩
      case round =>
        clear hh hb
        obtain ⟨m, hm, rfl, hh, hb⟩ := hrel
        by_cases hl2 : m < 4
        · have hc := (blk_cell hh (4*n+m)).trans (romArr_get _ _ (by omega))
          have hf := blk_frozen hh (4*n+m)
          have H : Hid ((wr.setCell ⟨w.heap.size + 1, 4*n+m, none⟩ (.int .u8 (romW n / 2 ^ (8 * m) % 256))).heap[w.heap.size + 1]? = some (.cells (romArr (4*n+(m+1))) 5 (0,0))) := by
            have h1 := blk_set hh (4*n+m) (.int .u8 (romW n / 2 ^ (8 * m) % 256))
            rw [romArr_set _ _ (by omega) (romW_step n m hl2 hlt)] at h1
            exact h1
          have HB : Hid (Below w.heap.size w (wr.setCell ⟨w.heap.size + 1, 4*n+m, none⟩ (.int .u8 (romW n / 2 ^ (8 * m) % 256)))) := hb.setCell (by simp) _
          clear hh hb
          go_wp2_with fail
          go_roundw
          case rel => exact ⟨m + 1, by omega, by go_num, H.out, HB.out⟩
          case measure => simp [intOf]; omega
        · have hm4 : m = 4 := by omega
          have HH : Hid (wr.heap[w.heap.size + 1]? = some (.cells (romArr (4*(n+1))) 5 (0,0))) := by
            rw [show 4 * (n+1) = 4*n+m by omega]; exact hh
          have HB : Hid (Below w.heap.size w wr) := hb
          clear hh hb hm4
          go_wp2_with fail
          go_roundw
          case rel => exact ⟨n + 1, by omega, by go_num, HH.out, HB.out⟩
          case measure => simp [intOf]; omega
    · go_wp2_with fail
      go_ret
      exact ⟨rfl, by simpa [show n = 8 by omega] using hh, hb⟩
theorem rom_list : ∀ (n : Nat) (h : n < 8), ([Value.int IntKind.u32 663, Value.int IntKind.u32 33719699, Value.int IntKind.u32 4047512947,
    Value.int IntKind.u32 25342595, Value.int IntKind.u32 163943, Value.int IntKind.u32 0,
    Value.int IntKind.u32 2147483648, Value.int IntKind.u32 0] : List Value)[n]? = some (.int .u32 (romW n))
  | 0, _ => rfl
  | 1, _ => rfl
  | 2, _ => rfl
  | 3, _ => rfl
  | 4, _ => rfl
  | 5, _ => rfl
  | 6, _ => rfl
  | 7, _ => rfl
  | n + 8, h => absurd h (by omega)

/-- the slice at a, of len bytes, reads as l. -/
structure IsB (w : World) (a : Option Addr) (len : Nat) (l : List Int) : Prop where
  hlen : l.length = len
  bd : ∀ x ∈ l, 0 ≤ x ∧ x ≤ 255
  cell : (a = none ∧ len = 0) ∨ ∃ b o, a = some ⟨b, o, none⟩ ∧ ∀ i, i < len → w.cell? ⟨b, o + i, none⟩ = some (.int .u8 (l.getD i 0))

theorem strOfNums_inj (l1 l2 : List Int) (h1 : ∀ x ∈ l1, 0 ≤ x ∧ x ≤ 255) (h2 : ∀ x ∈ l2, 0 ≤ x ∧ x ≤ 255) :
    (l1.map fun n => UInt8.ofNat n.toNat) = (l2.map fun n => UInt8.ofNat n.toNat) ↔ l1 = l2 := by
  constructor
  · intro h
    induction l1 generalizing l2 with
    | nil => cases l2 <;> simp_all
    | cons x l1 ih =>
      cases l2 with
      | nil => simp at h
      | cons y l2 =>
        simp only [List.map_cons, List.cons.injEq] at h
        have hx := h1 x (by simp)
        have hy := h2 y (by simp)
        have e := congrArg UInt8.toNat h.1
        simp at e
        have : x = y := by omega
        rw [this, ih l2 (fun z hz => h1 z (by simp [hz])) (fun z hz => h2 z (by simp [hz])) h.2]
  · intro h; rw [h]

/-- bytes l1, l2 alike, as the call of same.Bytes answers it. -/
def eqB (l1 l2 : List Int) : Bool := decide (l1 = l2)

theorem eqB_str (l1 l2 : List Int) (b1 : ∀ x ∈ l1, 0 ≤ x ∧ x ≤ 255) (b2 : ∀ x ∈ l2, 0 ≤ x ∧ x ≤ 255) : ((strOfNums l1).toList == (strOfNums l2).toList) = eqB l1 l2 := by
  unfold eqB
  rw [ByteArray.toList_eq, ByteArray.toList_eq, strOfNums_data, strOfNums_data, Bool.eq_iff_iff]
  simp [strOfNums_inj l1 l2 b1 b2]
theorem run_bytes_str {w : World} {a : Option Addr} {n : Nat} {l : List Int} (h : IsB w a n l) (c : Nat) :
    (convert 33 9 (.slice a n c)).run Tryz.prog w = .ok (.string (strOfNums l)) w := by
  obtain ⟨e, _, h⟩ := h
  rcases h with ⟨rfl, rfl⟩ | ⟨B, o, rfl, h⟩
  · have := run_convert_bytes_nil w (P := Tryz.prog) 33 5 Tryz.underlying33 Tryz.underlying5 0 c 9 Tryz.underlying9
    rw [List.eq_nil_of_length_eq_zero e]
    exact this
  · exact run_convert_bytes_arg w (P := Tryz.prog) 33 5 Tryz.underlying33 Tryz.underlying5 B o n c l e h 9 Tryz.underlying9
/-- a stretch of the ROM -/
def romL (off n : Nat) : List Int := (List.range n).map fun i => romAt (off + i)
theorem romL_len (off n : Nat) : (romL off n).length = n := by simp [romL]
theorem romL_get (off n i : Nat) (h : i < n) : (romL off n).getD i 0 = romAt (off + i) := by simp [romL, List.getD, h]
theorem romL_snoc (off n : Nat) : romL off (n + 1) = romL off n ++ [romAt (off + n)] := by simp [romL, List.range_succ]
theorem romL_bd (off n : Nat) : ∀ x ∈ romL off n, 0 ≤ x ∧ x ≤ 255 := by
  intro x hx
  simp [romL] at hx
  obtain ⟨i, _, rfl⟩ := hx
  exact romAt_bd _
theorem romAt32 (k : Nat) : (if k < 32 then romAt k else 0) = romAt k := by
  unfold romAt; split <;> simp_all
theorem bytes_own {w : World} {base : Nat} {v : Value} {n : Nat} {l : List Int} (h : w.ownsRow base 5 1 v n (l.map (Value.int .u8))) (hb : ∀ x ∈ l, 0 ≤ x ∧ x ≤ 255) :
    ∃ a c, v = .slice a n c ∧ IsB w a n l := by
  have hl : l.length = n := by have := h.1; simpa using this
  rcases h.2 with ⟨rfl, rfl⟩ | ⟨g, cap, cur, rfl, hg, hh, hn, hm, hs, ht⟩
  · exact ⟨none, 0, rfl, hl, hb, .inl ⟨rfl, rfl⟩⟩
  · refine ⟨_, _, rfl, hl, hb, .inr ⟨g, 0, rfl, fun i hi => ?_⟩⟩
    have hc := h.cells (g := g) rfl i (.int .u8 (l.getD i 0)) (by simp [List.getD, hl, hi])
    have hadd : (⟨g, 0, none⟩ : Addr).add i = ⟨g, 0 + i, none⟩ := by unfold Addr.add; split <;> simp_all
    rw [hadd] at hc
    exact hc


/-- it answered the bytes l and no error, and turned nothing that was there -/
def BytesOk (w : World) (n : Nat) (l : List Int) (e : Ending) (w' : World) : Prop := ∃ a c, e = .returned (.tuple #[.slice a n c, .int .i64 0]) ∧ IsB w' a n l ∧ Below w.heap.size w w'
set_option maxRecDepth 100000 in
set_option maxHeartbeats 1000000 in
theorem rom_read (off n : Nat) (h : off + n ≤ 4096) (w : World) :
    Calls Tryz.prog 80 #[.int .u64 off, .int .i64 n] w (BytesOk w n (romL off n)) := by
  have h1 : (off : Int) ≤ 4096 := by omega
  have h2 : (n : Int) ≤ 4096 - off := by omega
  have H := Lib.hid h; clear h
  go_enter Tryz.func80, Tryz.ntmps80
  go_wp2_with fail
  refine (rom_bytes w).mono ?_
  rintro e w1 ⟨rfl, hh, hb⟩
  have HH := Lib.hid hh; have HB := Lib.hid hb; clear hh hb
  have hsrc : Hid (SrcIs w1 (if 4096 = off then some { block := w.heap.size + 1, off := 0 } else some { block := w.heap.size + 1, off := off }) (off + n - off) ((romL off n).map (Value.int .u8))) := by
    have := H.out
    refine ⟨by rw [List.length_map, romL_len]; omega, .inr ⟨w.heap.size + 1, if 4096 = off then 0 else off, by split <;> rfl, fun i hi => ?_⟩⟩
    rw [if_neg (by omega), blk_cell HH.out, romArr_get _ _ (by omega), romAt32, List.getElem?_map, List.getElem?_eq_getElem (by rw [romL_len]; omega)]
    simp [romL]
  have hone : Hid (∀ u ∈ (romL off n).map (Value.int .u8), u.oneCell' = true) := by intro u hu; simp at hu; obtain ⟨_, _, rfl⟩ := hu; rfl
  have hby : Hid ((0 + (off + n - off)) * 1 ≤ 140737488355328) := by have := H.out; show _ ≤ _; omega
  have h63 : Hid (0 + (off + n - off) ≤ maxLen) := by have := H.out; show _ ≤ _; unfold maxLen; omega
  go_wp2_with (at_builtin; refine wpList_app rfl _ _ 33 rfl w.heap.size 5 (.int .u8 0) 1 Tryz.underlying33 A_info5 rfl (.slice none 0 0) 0 [] rfl (World.ownsRow_nil _ _ _ _) _ _ _ ((romL off n).map (Value.int .u8)) rfl hsrc.out hone.out hby.out h63.out HB.out.size ?_; intro v' w2 hown hg _)
  all_goals
    have HO : BytesOk w n (romL off n) (.returned (.tuple #[v', .int .i64 0])) w2 := by
      rw [show 0 + (off + n - off) = n by omega] at hown
      obtain ⟨a, c, rfl, hb⟩ := bytes_own hown (romL_bd off n)
      exact ⟨a, c, rfl, hb, HB.out.grown hg HB.out.size (by intro k hk; cases hk)⟩
    go_ret2
    exact HO
end Go.Proofs.YtgadnacgilbanaaGreat
end
section
set_option linter.unusedVariables false
set_option linter.unusedSimpArgs false
namespace Go.Proofs.YtgadnacgilbanaaGreat
open Go.RowKit
/-- the same at RamAt -/
theorem ram_all_at {w : World} {b n : Nat} {ct : Nat → Nat} {S : Nat → Prop} (h : RamAt w b n ct S) (x : Int) (x0 : 0 ≤ x) (x1 : x < 18446744073709551616) (k : Int) (k0 : 0 ≤ k) (k1 : k < 9223372036854775808) :
    Calls Tryz.prog 114 #[.pointer (some ⟨b, 0, none⟩), .int .u64 x, .int .i64 k] w fun e w' => e = .returned (.bool (ramAll n x k)) ∧ Below w.heap.size w w' := by
  obtain ⟨m, pg, h, rfl⟩ := h
  exact ram_all h x x0 x1 k k0 k1
theorem ram_get_at {w : World} {b n : Nat} {ct : Nat → Nat} {S : Nat → Prop} (h : RamAt w b n ct S) (x : Int) (x0 : 0 ≤ x) (x1 : x < 1048576) :
    Calls Tryz.prog 138 #[.pointer (some ⟨b, 0, none⟩), .int .i64 x] w fun e w' => e = .returned (.int .u8 (ct x.toNat)) ∧ w = w' := by
  obtain ⟨m, pg, h, rfl⟩ := h
  exact ram_get h x x0 x1
theorem ram_set_at {w : World} {b n : Nat} {ct : Nat → Nat} {S : Nat → Prop} (h : RamAt w b n ct S) (x : Int) (x0 : 0 ≤ x) (x1 : x < 1048576) (v : Nat) (hv : v < 256) :
    Calls Tryz.prog 126 #[.pointer (some ⟨b, 0, none⟩), .int .i64 x, .int .u8 v] w fun e w' => e = .returned (.tuple #[]) ∧ RamTo w w' b n (updB ct x.toNat v) S := by
  obtain ⟨m, pg, h, rfl⟩ := h
  exact ram_set h x x0 x1 v hv
theorem RamAt.lo {w : World} {b n : Nat} {ct : Nat → Nat} {S : Nat → Prop} (h : RamAt w b n ct S) : 4 ≤ n ∧ n ≤ 256 := by
  obtain ⟨m, pg, h, rfl⟩ := h
  exact ⟨h.lo, h.hi⟩
theorem RamAt.bd {w : World} {b n : Nat} {ct : Nat → Nat} {S : Nat → Prop} (h : RamAt w b n ct S) (i : Nat) : ct i < 256 := by
  obtain ⟨m, pg, h, rfl⟩ := h
  exact h.bd i
theorem RamAt.at0 {w : World} {b n : Nat} {ct : Nat → Nat} {S : Nat → Prop} (h : RamAt w b n ct S) : w.cell? ⟨b, 0, none⟩ = some (.int .i64 n) := by
  obtain ⟨m, pg, h, rfl⟩ := h
  exact blk_cell h.at_ 0
theorem RamAt.drew {w : World} {b n : Nat} {ct : Nat → Nat} {S : Nat → Prop} (h : RamAt w b n ct S) : RamAt w.drew b n ct S := h.below (Below.refl _ _).drew
/-- the bytes from there on -/
def bytesAt (ct : Nat → Nat) (off k : Nat) : List Int := (List.range k).map fun i => (ct (off + i) : Int)
theorem bytesAt_len (ct : Nat → Nat) (off k : Nat) : (bytesAt ct off k).length = k := by simp [bytesAt]
theorem bytesAt_snoc (ct : Nat → Nat) (off k : Nat) : bytesAt ct off (k + 1) = bytesAt ct off k ++ [(ct (off + k) : Int)] := by simp [bytesAt, List.range_succ]
theorem bytesAt_bd {ct : Nat → Nat} (h : ∀ i, ct i < 256) (off k : Nat) : ∀ x ∈ bytesAt ct off k, 0 ≤ x ∧ x ≤ 255 := by
  intro x hx
  simp only [bytesAt, List.mem_map] at hx
  obtain ⟨i, _, rfl⟩ := hx
  have := h (off + i)
  omega
theorem bytesAt_getD (ct : Nat → Nat) (off k i : Nat) (h : i < k) : (bytesAt ct off k).getD i 0 = (ct (off + i) : Int) := by simp [bytesAt, List.getD, h]
/-- no bytes, and that error -/
def NoBytes (w : World) (k : Int) (e : Ending) (w' : World) : Prop := e = .returned (.tuple #[.slice none 0 0, .int .i64 k]) ∧ Below w.heap.size w w'
/-- those bytes in a slice of their own, no error -/
def OwnBytes (w : World) (n : Nat) (l : List Int) (e : Ending) (w' : World) : Prop := ∃ v, e = .returned (.tuple #[v, .int .i64 0]) ∧ w'.ownsRow w.heap.size 5 1 v n (l.map (Value.int .u8)) ∧ Below w.heap.size w w'
set_option maxRecDepth 100000 in
set_option maxHeartbeats 1000000 in
theorem ram_read_nil (x k : Int) (w : World) : Calls Tryz.prog 125 #[.pointer none, .int .u64 x, .int .i64 k] w (NoBytes w 2) := by
  have hB := Lib.hid (Below.refl w.heap.size w)
  go_enter Tryz.func125, Tryz.ntmps125
  go_wp2
  go_ret2
  exact ⟨rfl, hB.out⟩
set_option maxRecDepth 100000 in
set_option maxHeartbeats 1000000 in
theorem ram_read_neg (b : Nat) (x k : Int) (hk : k < 0) (w : World) : Calls Tryz.prog 125 #[.pointer (some ⟨b, 0, none⟩), .int .u64 x, .int .i64 k] w (NoBytes w 1) := by
  have hB := Lib.hid (Below.refl w.heap.size w)
  go_enter Tryz.func125, Tryz.ntmps125
  go_wp2
  go_ret2
  exact ⟨rfl, hB.out⟩
set_option maxRecDepth 100000 in
set_option maxHeartbeats 1000000 in
theorem ram_read_bus {w : World} {b n : Nat} {ct : Nat → Nat} {S : Nat → Prop} (h : RamAt w b n ct S) (x : Int) (x0 : 0 ≤ x) (x1 : x < 18446744073709551616) (k : Int) (k0 : 0 ≤ k) (k1 : k < 9223372036854775808) (ha : ramAll n x k = false) :
    Calls Tryz.prog 125 #[.pointer (some ⟨b, 0, none⟩), .int .u64 x, .int .i64 k] w (NoBytes w 6) := by
  have HA := Lib.hid (ram_all_at h x x0 x1 k k0 k1)
  rw [ha] at HA
  clear h ha x0 x1
  go_enter Tryz.func125, Tryz.ntmps125
  go_wp2_with fail
  refine HA.out.mono ?_
  rintro e w1 ⟨rfl, hb⟩
  have HB := Lib.hid hb
  clear hb
  go_wp2
  go_ret2
  exact ⟨rfl, HB.out⟩
set_option maxRecDepth 100000 in
set_option maxHeartbeats 2000000 in
theorem ram_read_ok {w : World} {b n : Nat} {ct : Nat → Nat} {S : Nat → Prop} (h : RamAt w b n ct S) (x : Int) (x0 : 0 ≤ x) (x1 : x < 18446744073709551616) (k : Nat) (ha : ramAll n x k = true) :
    Calls Tryz.prog 125 #[.pointer (some ⟨b, 0, none⟩), .int .u64 x, .int .i64 k] w (OwnBytes w k (bytesAt ct (x - 2147483648).toNat k)) := by
  have hlo := h.lo
  have hx : k = 0 ∨ (2147483648 ≤ x ∧ x - 2147483648 + k ≤ n * 4096) := by
    simp only [ramAll, isRam, Bool.or_eq_true, Bool.and_eq_true, decide_eq_true_eq] at ha
    omega
  have hk : (k : Int) ≤ 1048576 := by omega
  have HA := Lib.hid (ram_all_at h x x0 x1 k (by omega) (by omega))
  rw [ha] at HA
  have H := Lib.hid h
  have HX := Lib.hid hx
  have hn : (n : Int) ≤ 256 := by omega
  have HB0 := Lib.hid (bytesAt_snoc ct (x - 2147483648).toNat)
  have HL := Lib.hid (show bytesAt ct (x - 2147483648).toNat 0 = [] from rfl)
  clear h ha hx hlo
  generalize hO : (x - 2147483648).toNat = O at *
  have HO := Lib.hid hO
  clear hO
  go_enter Tryz.func125, Tryz.ntmps125
  go_wp2_with fail
  refine HA.out.mono ?_
  rintro e w1 ⟨rfl, hb⟩
  have HB := Lib.hid hb
  clear hb
  go_wp2_with fail
  go_loopw [8, 23] (fun v i wr => ∃ j : Nat, j ≤ k ∧ i = .int .i64 j ∧ wr.ownsRow w.heap.size 5 1 v j ((bytesAt ct O j).map (Value.int .u8)) ∧ Below w.heap.size w wr) (fun _ i _ => k - (intOf i).toNat)
  case atStart => exact ⟨0, by omega, rfl, by rw [HL.out]; exact World.ownsRow_nil _ _ _ _, HB.out⟩
  case round =>
    clear HB
    obtain ⟨j, hj, rfl, hown, hb⟩ := hrel
    have HW := Lib.hid hown
    have HBB := Lib.hid hb
    clear hown hb
    by_cases hlt : j < k
    · have hxx := HX.out
      have hp : IntKind.u64.wrap (x - 2147483648) = x - 2147483648 := by rw [IntKind.wrap_u64]; omega
      have hjj : (j : Int) < k := by omega
      have g0 : 0 ≤ x - 2147483648 := by omega
      have g1 : x - 2147483648 + j < 1048576 := by omega
      have HR := Lib.hid (H.out.below HBB.out)
      clear hxx hlt hj
      go_wp2_with fail
      refine (ram_get_at HR.out _ (by omega) (by omega)).mono ?_
      rintro e w2 ⟨rfl, rfl⟩
      have HO2 : Hid ((x - 2147483648 + (j : Int)).toNat = O + j) := by have := HO.out; show _ = _; omega
      rw [HO2.out]
      have hone : Hid (∀ u ∈ [Value.int .u8 (ct (O + j))], u.oneCell' = true) := by intro u hu; simp at hu; subst hu; rfl
      have hz : Hid (w.heap.size ≤ (wr.alloc (.cells #[Value.int .u8 (ct (O + j))] 5)).heap.size) := by have := HBB.out.size; show _ ≤ _; simp; omega
      go_wp2_with (at_builtin; refine wpList_app rfl _ _ 33 rfl w.heap.size 5 (.int .u8 0) 1 Tryz.underlying33 A_info5 rfl _ j _ rfl (HW.out.alloc _) _ _ _ [Value.int .u8 (ct (O + j))] rfl (src_one wr _ 5) hone.out (by omega) (by unfold maxLen; omega) hz.out ?_; intro v' w2 hown hg _; have HW2 := Lib.hid hown; have HG := Lib.hid hg; clear hown hg)
      all_goals
        refine ⟨⟨j + 1, by omega, by rw [Int.natCast_succ], ?_, ?_⟩, by simp [intOf]; omega⟩
        · rw [HB0.out, List.map_append]; exact HW2.out
        · exact own_base (HW.out.alloc _) HG.out (HBB.out.alloc HBB.out.size _) hz.out (Nat.le_refl _)
    · obtain rfl : j = k := by omega
      go_wp2
      go_ret2
      exact ⟨_, rfl, HW.out, HBB.out⟩
set_option maxRecDepth 100000 in
set_option maxHeartbeats 1000000 in
theorem ram_pages {w : World} {b n : Nat} {ct : Nat → Nat} {S : Nat → Prop} (h : RamAt w b n ct S) : Calls Tryz.prog 30 #[.pointer (some ⟨b, 0, none⟩)] w fun e w' => e = .returned (.int .i64 n) ∧ w = w' := by
  have c := h.at0
  clear h
  go_enter Tryz.func30, Tryz.ntmps30
  go_wp2
  go_ret
  exact ⟨rfl, rfl⟩
set_option maxRecDepth 100000 in
set_option maxHeartbeats 1000000 in
theorem ram_pages_nil (w : World) : Calls Tryz.prog 30 #[.pointer none] w fun e w' => e = .returned (.int .i64 0) ∧ w = w' := by
  go_enter Tryz.func30, Tryz.ntmps30
  go_wp2
  go_ret
  exact ⟨rfl, rfl⟩
end Go.Proofs.YtgadnacgilbanaaGreat
end
section
set_option linter.unusedVariables false
set_option linter.unusedSimpArgs false
namespace Go.Proofs.YtgadnacgilbanaaGreat
open Go.RowKit
/-- the number of which these are the bytes, the lowest first -/
def wordN (f : Nat → Nat) : Nat → Nat
  | 0 => 0
  | k + 1 => wordN f k + f k * 2 ^ (8 * k)
theorem wordN_lt {f : Nat → Nat} (h : ∀ i, f i < 256) : ∀ k, wordN f k < 2 ^ (8 * k)
  | 0 => by simp [wordN]
  | k + 1 => by
    have h1 := wordN_lt h k
    have h2 := h k
    have e : 2 ^ (8 * (k + 1)) = 256 * 2 ^ (8 * k) := by rw [show 8 * (k + 1) = 8 * k + 8 by omega, Nat.pow_add]; omega
    unfold wordN
    rw [e]
    have : f k * 2 ^ (8 * k) ≤ 255 * 2 ^ (8 * k) := Nat.mul_le_mul_right _ (by omega)
    omega
theorem wordN_congr {f g : Nat → Nat} : ∀ (k : Nat), (∀ i, i < k → f i = g i) → wordN f k = wordN g k
  | 0, _ => rfl
  | k + 1, h => by unfold wordN; rw [wordN_congr k (fun i hi => h i (by omega)), h k (by omega)]
theorem word_or {f : Nat → Nat} (h : ∀ i, f i < 256) {k : Nat} (hk : k < 8) : Value.int .u64 (bits .or .u64 (wordN f k : Nat) (IntKind.u64.wrap (IntKind.u64.wrap (f k : Int) * 2 ^ (8 * k)))) = .int .u64 (wordN f (k + 1) : Nat) := by
  have h1 := wordN_lt h k
  have h2 := wordN_lt h (k + 1)
  have h3 : (2 : Nat) ^ (8 * (k + 1)) ≤ 2 ^ 64 := Nat.pow_le_pow_right (by omega) (by omega)
  have e0 : IntKind.u64.wrap (f k : Int) = f k := by have := h k; rw [IntKind.wrap_u64]; omega
  have e : ((f k : Int) * 2 ^ (8 * k)) = ((f k * 2 ^ (8 * k) : Nat) : Int) := by rw [Int.natCast_mul, Int.natCast_pow]; rfl
  have e3 : wordN f (k + 1) = wordN f k + f k * 2 ^ (8 * k) := rfl
  have e4 : wordN f k + f k * 2 ^ (8 * k) = wordN f k ||| f k * 2 ^ (8 * k) := by rw [Nat.or_comm, Nat.mul_comm, ← Nat.two_pow_add_eq_or_of_lt h1, Nat.add_comm]
  rw [e0, e]
  rw [e3] at h2
  rw [e3, e4]
  rw [e4] at h2
  generalize f k * 2 ^ (8 * k) = A at *
  generalize wordN f k = B at *
  have hA : A < 18446744073709551616 := by omega
  have hB : B < 18446744073709551616 := by omega
  rw [IntKind.wrap_u64, Int.emod_eq_of_lt (by omega) (by omega), u64_or_nat _ _ hB hA]
set_option maxRecDepth 100000 in
set_option maxHeartbeats 2000000 in
theorem bits_word_le (a : Option Addr) (m c : Nat) (l : List Int) (w : World) (hb : IsB w a m l) (hm : (m : Int) ≤ 9223372036854775807) (h8 : (m : Int) ≤ 8) :
    Calls Tryz.prog 82 #[.slice a m c] w fun e w' => e = .returned (.int .u64 (wordN (fun i => (l.getD i 0).toNat) m : Nat)) ∧ w = w' := by
  have H := Lib.hid hb
  have H255 := Lib.hid (show ∀ i, (l.getD i 0).toNat < 256 from fun i => by
    by_cases hi : i < l.length
    · have := hb.bd (l.getD i 0) (by simp [List.getD, hi])
      omega
    · simp [List.getD, hi])
  clear hb
  generalize hf : (fun i => (l.getD i 0).toNat) = f
  have HF := Lib.hid hf
  have HLT := Lib.hid (show ∀ i, f i < 256 from fun i => by rw [← hf]; exact H255.out i)
  clear hf
  go_enter Tryz.func82, Tryz.ntmps82
  go_wp2_with fail
  go_loop [3, 8] (fun v i => ∃ k : Nat, (k : Int) ≤ m ∧ i = .int .i64 k ∧ v = .int .u64 (wordN f k : Nat)) (fun _ i => m - (intOf i).toNat)
  case atStart => exact ⟨0, by omega, rfl, rfl⟩
  case round =>
    obtain ⟨k, hk, rfl, rfl⟩ := hrel
    by_cases hlt : (k : Int) < m
    · have h1 : (k : Int) < m := by omega
      have h2 : (k : Int) < 8 := by omega
      clear hk
      obtain ⟨b, o, rfl, hc⟩ : ∃ b o, a = some ⟨b, o, none⟩ ∧ w.cell? ⟨b, o + k, none⟩ = some (.int .u8 (f k : Nat)) := by
        rcases H.out.cell with ⟨_, h0⟩ | ⟨b, o, rfl, h⟩
        · omega
        · refine ⟨b, o, rfl, (h k (by omega)).trans ?_⟩
          have : 0 ≤ l.getD k 0 := by
            by_cases hkl : k < l.length
            · have := H.out.bd (l.getD k 0) (by simp [List.getD, hkl])
              omega
            · simp [List.getD, hkl]
          rw [← HF.out]
          simp only
          rw [Int.toNat_of_nonneg this]
      have hor := word_or (k := k) HLT.out (by omega)
      have HO := Lib.hid hor
      clear hor
      go_wp2_with fail
      exact ⟨⟨k + 1, by omega, by rw [Int.natCast_succ], HO.out⟩, by simp [intOf]; omega⟩
    · obtain rfl : k = m := by omega
      go_wp2_with fail
      go_ret
      exact ⟨rfl, rfl⟩
set_option maxRecDepth 100000 in
set_option maxHeartbeats 2000000 in
theorem bits_word_gt (a : Option Addr) (m c : Nat) (l : List Int) (w : World) (hb : IsB w a m l) (hm : (m : Int) ≤ 9223372036854775807) (h8 : (8 : Int) < m) :
    Calls Tryz.prog 82 #[.slice a m c] w fun e w' => e = .returned (.int .u64 (wordN (fun i => (l.getD i 0).toNat) 8 : Nat)) ∧ w = w' := by
  have H := Lib.hid hb
  have H255 := Lib.hid (show ∀ i, (l.getD i 0).toNat < 256 from fun i => by
    by_cases hi : i < l.length
    · have := hb.bd (l.getD i 0) (by simp [List.getD, hi])
      omega
    · simp [List.getD, hi])
  clear hb
  generalize hf : (fun i => (l.getD i 0).toNat) = f
  have HF := Lib.hid hf
  have HLT := Lib.hid (show ∀ i, f i < 256 from fun i => by rw [← hf]; exact H255.out i)
  clear hf
  go_enter Tryz.func82, Tryz.ntmps82
  go_wp2_with fail
  go_loop [3, 8] (fun v i => ∃ k : Nat, (k : Int) ≤ 8 ∧ i = .int .i64 k ∧ v = .int .u64 (wordN f k : Nat)) (fun _ i => 8 - (intOf i).toNat)
  case atStart => exact ⟨0, by omega, rfl, rfl⟩
  case round =>
    obtain ⟨k, hk, rfl, rfl⟩ := hrel
    by_cases hlt : (k : Int) < 8
    · have h1 : (k : Int) < m := by omega
      have h2 : (k : Int) < 8 := by omega
      clear hk
      obtain ⟨b, o, rfl, hc⟩ : ∃ b o, a = some ⟨b, o, none⟩ ∧ w.cell? ⟨b, o + k, none⟩ = some (.int .u8 (f k : Nat)) := by
        rcases H.out.cell with ⟨_, h0⟩ | ⟨b, o, rfl, h⟩
        · omega
        · refine ⟨b, o, rfl, (h k (by omega)).trans ?_⟩
          have : 0 ≤ l.getD k 0 := by
            by_cases hkl : k < l.length
            · have := H.out.bd (l.getD k 0) (by simp [List.getD, hkl])
              omega
            · simp [List.getD, hkl]
          rw [← HF.out]
          simp only
          rw [Int.toNat_of_nonneg this]
      have hor := word_or (k := k) HLT.out (by omega)
      have HO := Lib.hid hor
      clear hor
      go_wp2_with fail
      exact ⟨⟨k + 1, by omega, by rw [Int.natCast_succ], HO.out⟩, by simp [intOf]; omega⟩
    · obtain rfl : k = 8 := by omega
      go_wp2_with fail
      go_ret
      exact ⟨rfl, rfl⟩
theorem bits_word (a : Option Addr) (m c : Nat) (l : List Int) (w : World) (hb : IsB w a m l) (hm : (m : Int) ≤ 9223372036854775807) :
    Calls Tryz.prog 82 #[.slice a m c] w fun e w' => e = .returned (.int .u64 (wordN (fun i => (l.getD i 0).toNat) (min m 8) : Nat)) ∧ w = w' := by
  by_cases h8 : (m : Int) ≤ 8
  · rw [show min m 8 = m by omega]; exact bits_word_le a m c l w hb hm h8
  · rw [show min m 8 = 8 by omega]; exact bits_word_gt a m c l w hb hm (by omega)
set_option maxRecDepth 100000 in
set_option maxHeartbeats 1000000 in
theorem bits_aligned (x : Int) (x0 : 0 ≤ x) (n : Nat) (h1 : 1 ≤ n) (h2 : (n : Int) ≤ 9223372036854775807) (w : World) :
    Calls Tryz.prog 68 #[.int .u64 x, .int .i64 n] w fun e w' => e = .returned (.bool (decide (x % n = 0))) ∧ w = w' := by
  have h3 : (1 : Int) ≤ n := by omega
  have hw : IntKind.u64.wrap (n : Int) = n := by rw [IntKind.wrap_u64]; omega
  go_enter Tryz.func68, Tryz.ntmps68
  go_wp2
  go_ret
  exact ⟨ret_bool (by first | rfl | simp), rfl⟩
/-- the bytes of a number, the lowest first -/
def numBytes (v k : Nat) : List Int := (List.range k).map fun i => ((v / 2 ^ (8 * i) % 256 : Nat) : Int)
theorem numBytes_snoc (v k : Nat) : numBytes v (k + 1) = numBytes v k ++ [((v / 2 ^ (8 * k) % 256 : Nat) : Int)] := by simp [numBytes, List.range_succ]
theorem numBytes_len (v k : Nat) : (numBytes v k).length = k := by simp [numBytes]
theorem numBytes_bd (v k : Nat) : ∀ x ∈ numBytes v k, 0 ≤ x ∧ x ≤ 255 := by
  intro x hx
  simp only [numBytes, List.mem_map] at hx
  obtain ⟨i, _, rfl⟩ := hx
  omega
/-- those bytes in a slice of their own -/
def OwnSlice (w : World) (n : Nat) (l : List Int) (e : Ending) (w' : World) : Prop := ∃ v, e = .returned v ∧ w'.ownsRow w.heap.size 5 1 v n (l.map (Value.int .u8)) ∧ Below w.heap.size w w'
set_option maxRecDepth 100000 in
set_option maxHeartbeats 2000000 in
theorem bits_bytes (v : Nat) (n : Nat) (hn : (n : Int) ≤ 8) (w : World) :
    Calls Tryz.prog 66 #[.int .u64 v, .int .i64 n] w (OwnSlice w n (numBytes v n)) := by
  have HB0 := Lib.hid (numBytes_snoc v)
  have HL := Lib.hid (show numBytes v 0 = [] from rfl)
  go_enter Tryz.func66, Tryz.ntmps66
  go_wp2_with fail
  go_loopw [5, 10] (fun s i wr => ∃ j : Nat, (j : Int) ≤ n ∧ i = .int .i64 j ∧ wr.ownsRow w.heap.size 5 1 s j ((numBytes v j).map (Value.int .u8)) ∧ Below w.heap.size w wr) (fun _ i _ => n - (intOf i).toNat)
  case atStart => exact ⟨0, by omega, rfl, by rw [HL.out]; exact World.ownsRow_nil _ _ _ _, Below.refl _ _⟩
  case round =>
    obtain ⟨j, hj, rfl, hown, hb⟩ := hrel
    have HW := Lib.hid hown
    have HBB := Lib.hid hb
    clear hown hb
    by_cases hlt : (j : Int) < n
    · clear hj
      have hj8 : (j : Int) < 8 := by omega
      have hb8 : IntKind.u8.wrap ((v : Int) / 2 ^ (8 * j)) = ((v / 2 ^ (8 * j) % 256 : Nat) : Int) := by
        rw [IntKind.wrap_u8, Int.natCast_emod, Int.natCast_ediv, Int.natCast_pow]; rfl
      have hz : Hid (w.heap.size ≤ (wr.alloc (.cells #[Value.int .u8 (v / 2 ^ (8 * j) % 256 : Nat)] 5)).heap.size) := by have := HBB.out.size; show _ ≤ _; simp; omega
      have hone : Hid (∀ u ∈ [Value.int .u8 (v / 2 ^ (8 * j) % 256 : Nat)], u.oneCell' = true) := by intro u hu; simp at hu; subst hu; rfl
      go_wp2_with (at_builtin; refine wpList_app rfl _ _ 33 rfl w.heap.size 5 (.int .u8 0) 1 Tryz.underlying33 A_info5 rfl _ j _ rfl (HW.out.alloc _) _ _ _ [Value.int .u8 (v / 2 ^ (8 * j) % 256 : Nat)] rfl (src_one wr _ 5) hone.out (by omega) (by unfold maxLen; omega) hz.out ?_; intro v' w2 hown hg _; have HW2 := Lib.hid hown; have HG := Lib.hid hg; clear hown hg)
      all_goals
        refine ⟨⟨j + 1, by omega, by rw [Int.natCast_succ], ?_, ?_⟩, by simp [intOf]; omega⟩
        · rw [HB0.out, List.map_append]; exact HW2.out
        · exact own_base (HW.out.alloc _) HG.out (HBB.out.alloc HBB.out.size _) hz.out (Nat.le_refl _)
    · obtain rfl : j = n := by omega
      go_wp2
      go_ret
      exact ⟨_, rfl, HW.out, HBB.out⟩
end Go.Proofs.YtgadnacgilbanaaGreat
end
section
set_option linter.unusedVariables false
namespace Go.Proofs.YtgadnacgilbanaaGreat
open Go.ChangeShapes Go.WideShapes Go.RowKit Go.Deep

/-- a slice's cells: so many values, in a block that is there -/
def IsRow (w : World) (a : Option Addr) (len : Nat) (V : Nat → Value) : Prop := 0 < len → ∃ b o, a = some ⟨b, o, none⟩ ∧ b < w.heap.size ∧ ∀ i, i < len → w.cell? ⟨b, o + i, none⟩ = some (V i)
theorem IsRow.le {w : World} {a : Option Addr} {len len' : Nat} {V : Nat → Value} (h : IsRow w a len V) (hl : len' ≤ len) : IsRow w a len' V := by
  intro h0
  obtain ⟨b, o, h1, h2, h3⟩ := h (by omega)
  exact ⟨b, o, h1, h2, fun i hi => h3 i (by omega)⟩
/-- what a slice that came in is: its length and capacity, and its cells up to the capacity -/
structure ArgRow (w : World) (a : Option Addr) (len cap : Nat) (V : Nat → Value) : Prop where
  le : len ≤ cap
  max : cap ≤ 9223372036854775807
  nil : a = none → cap = 0
  form : a = none ∨ ∃ b o, a = some ⟨b, o, none⟩ ∧ b < w.heap.size
  row : IsRow w a cap V
theorem slice_form {P : Program} {W : World} {base : Nat} {t e : TypeId} (ht : P.underlying t = some (.slice e)) {a : Option Addr} {len cap : Nat} (h : Value.okWide P W .any base t (.slice a len cap)) : a = none ∨ ∃ b o, a = some ⟨b, o, none⟩ ∧ b < W.heap.size := by
  simp only [Value.okWide, ht, Cell.okWide] at h
  rcases a with _ | ⟨b, o, s⟩
  · exact .inl rfl
  · right
    simp only [Cell.ok, ht] at h
    obtain ⟨_, _, _, hs, r, c, hsh, _⟩ := h
    simp only at hs
    subst hs
    refine ⟨b, o, rfl, ?_⟩
    unfold World.shape? at hsh
    split at hsh
    · rename_i hh
      exact (Array.getElem?_eq_some_iff.1 hh).1
    · cases hsh
/-- how many elements a datum has -/
def DatumHas {H : Type} (d : DataW H) (cap : Nat) : Prop := (d = .nil ∧ cap = 0) ∨ ∃ elems spare, d = .slice elems spare ∧ elems.length + spare.length = cap
theorem row_of_cells {w : World} {a : Addr} {n : Nat} {V : Nat → Value} (h : ∀ i, i < n → w.cell? (a.add i) = some (V i)) : IsRow w (some a) n V := by
  intro hn
  obtain ⟨b, o, s⟩ := a
  have h0 := h 0 hn
  have hs : s = none := by
    unfold Addr.add at h0
    simp only [if_true] at h0
    unfold World.cell? at h0
    split at h0
    · cases s <;> simp_all
    · cases h0
  subst hs
  have hadd : ∀ i, (⟨b, o, none⟩ : Addr).add i = ⟨b, o + i, none⟩ := fun i => by unfold Addr.add; split <;> simp_all
  refine ⟨b, o, rfl, ?_, fun i hi => by rw [← hadd]; exact h i hi⟩
  exact World.block_lt_of_cell? w _ ((hadd 0) ▸ h0)
section
variable {H : Type} {enc : TypeId × Value → H} {P : Program} {W : World}
theorem arg_ints {t e : TypeId} {k : IntKind} (ht : P.underlying t = some (.slice e)) (he : P.underlying e = some (.int k)) (hc : P.cellsOf e = 1) {a : Option Addr} {len cap : Nat} {d : DataW H} {p : List MemPlace} {b0 : Nat} (hv : Value.okWide P W .any b0 t (.slice a len cap))
    (h : DataW.Trod enc P W 0 (fun _ => true) true t (.slice a len cap) d p) :
    ∃ z : Nat → Int, (∀ i, (Lit.int k (z i)).wf = true) ∧ ArgRow W a len cap (fun i => .int k (z i)) ∧ DatumHas d cap := by
  have hform := slice_form ht hv
  obtain ⟨fuel, hf⟩ := h
  have hw0 : (Lit.int k 0).wf = true := by cases k <;> decide
  rcases open_ints ht he hc hf with ⟨hcs, hx⟩ | ⟨ad, len', cap', zs, hcs, _, hl, hm, hz, hx, hcell, hwz⟩
  · simp [Value.cells] at hcs
    obtain ⟨rfl, rfl, rfl⟩ := hcs
    simp only [Prod.mk.injEq] at hx
    exact ⟨fun _ => 0, fun _ => hw0, ⟨Nat.le_refl _, by omega, fun _ => rfl, hform, fun h => absurd h (by omega)⟩, .inl ⟨hx.1, rfl⟩⟩
  · simp [Value.cells] at hcs
    obtain ⟨rfl, rfl, rfl⟩ := hcs
    simp only [Prod.mk.injEq] at hx
    simp only [if_true] at hz
    refine ⟨fun i => zs.getD i 0, fun i => ?_, ⟨hl, hm, (fun h => nomatch h), hform, row_of_cells fun i hi => hcell i (by omega)⟩, .inr ⟨_, _, hx.1, ?_⟩⟩
    · by_cases hi : i < zs.length
      · have e : zs.getD i 0 = zs[i] := by simp [List.getD, hi]
        simp only [e]; exact hwz _ (List.getElem_mem hi)
      · have e : zs.getD i 0 = 0 := by simp [List.getD, hi]
        simp only [e]; exact hw0
    · simp [lits]; omega
theorem arg_bools {t e : TypeId} (ht : P.underlying t = some (.slice e)) (he : P.underlying e = some .bool) (hc : P.cellsOf e = 1) {a : Option Addr} {len cap : Nat} {d : DataW H} {p : List MemPlace} {b0 : Nat} (hv : Value.okWide P W .any b0 t (.slice a len cap))
    (h : DataW.Trod enc P W 0 (fun _ => true) true t (.slice a len cap) d p) :
    ∃ z : Nat → Bool, ArgRow W a len cap (fun i => .bool (z i)) ∧ DatumHas d cap := by
  have hform := slice_form ht hv
  obtain ⟨fuel, hf⟩ := h
  rcases open_bools ht he hc hf with ⟨hcs, hx⟩ | ⟨ad, len', cap', z, hcs, _, hl, hm, hx, hcell⟩
  · simp [Value.cells] at hcs
    obtain ⟨rfl, rfl, rfl⟩ := hcs
    simp only [Prod.mk.injEq] at hx
    exact ⟨fun _ => false, ⟨Nat.le_refl _, by omega, fun _ => rfl, hform, fun h => absurd h (by omega)⟩, .inl ⟨hx.1, rfl⟩⟩
  · simp [Value.cells] at hcs
    obtain ⟨rfl, rfl, rfl⟩ := hcs
    simp only [Prod.mk.injEq] at hx
    refine ⟨z, ⟨hl, hm, (fun h => nomatch h), hform, row_of_cells fun i hi => hcell i hi⟩, .inr ⟨_, _, hx.1, ?_⟩⟩
    simp; omega
/-- the form's reach -/
theorem arg_size {ts : List TypeId} {ds : List (DataW H)} (h : (DataW.weightsEach P ts ds).all (· ≤ reachBytes) = true) {j : Nat} {t e : TypeId} {d : DataW H} {cap : Nat} (ht : ts[j]? = some t) (hd : ds[j]? = some d) (hu : P.underlying t = some (.slice e)) (hh : DatumHas d cap) (b : Nat) (hb : P.bytesOf e = b) :
    cap * b ≤ 140737488351232 := by
  rcases hh with ⟨rfl, rfl⟩ | ⟨el, sp, rfl, rfl⟩
  · omega
  · have := sized_slice h ht hd hu
    rw [hb] at this
    exact this
end
end Go.Proofs.YtgadnacgilbanaaGreat
end
section
set_option linter.unusedVariables false
set_option linter.unusedSimpArgs false
namespace Go.Proofs.YtgadnacgilbanaaGreat
open Go.RowKit
theorem RamAt.to {w : World} {b n : Nat} {ct : Nat → Nat} {S : Nat → Prop} (h : RamAt w b n ct S) : RamTo w w b n ct S := ⟨S, h, Turned.refl _ _, fun _ => .inl⟩
/-- from one to the next: the first has turned to wr, owning what it owned and new blocks -/
theorem RamTo.step {w wr : World} {b n : Nat} {ct : Nat → Nat} {S : Nat → Prop} (h : RamTo w wr b n ct S) : ∃ S', RamAt wr b n ct S' ∧ Turned S w wr ∧ (∀ g, S' g → S g ∨ w.heap.size ≤ g) ∧ (∀ w' ct', RamTo wr w' b n ct' S' → RamTo w w' b n ct' S) := by
  obtain ⟨S', h1, h2, h3⟩ := h
  refine ⟨S', h1, h2, h3, ?_⟩
  rintro w' ct' ⟨S'', k1, k2, k3⟩
  refine ⟨S'', k1, h2.trans k2 h3, fun g hg => ?_⟩
  rcases k3 g hg with h | h
  · exact h3 g h
  · have := h2.size; right; omega
theorem RamTo.below {w w1 w2 : World} {b n : Nat} {ct : Nat → Nat} {S : Nat → Prop} (h : RamTo w w1 b n ct S) (hb : Below w1.heap.size w1 w2) : RamTo w w2 b n ct S := by
  obtain ⟨S', h1, h2, h3, h4⟩ := h.step
  exact h4 w2 ct ⟨S', h1.below hb, Turned.of_below hb _, fun _ => .inl⟩
theorem RamTo.from_below {w w1 w2 : World} {b n : Nat} {ct : Nat → Nat} {S : Nat → Prop} (hb : Below w.heap.size w w1) (h : RamTo w1 w2 b n ct S) : RamTo w w2 b n ct S := by
  obtain ⟨S', h1, h2, h3⟩ := h
  refine ⟨S', h1, (Turned.of_below hb (fun _ => False)).mono (fun _ e => e.elim) |>.trans h2 (fun _ => .inl), fun g hg => ?_⟩
  rcases h3 g hg with h | h
  · exact .inl h
  · have := hb.size; right; omega
/-- a slice's cells lie in none of these blocks -/
def Apart (S : Nat → Prop) (a : Option Addr) : Prop := ∀ b o s, a = some ⟨b, o, s⟩ → ¬ S b
theorem isB_turned {w w' : World} {S : Nat → Prop} {a : Option Addr} {n : Nat} {l : List Int} (h : IsB w a n l) (ht : Turned S w w') (ha : Apart S a) : IsB w' a n l := by
  obtain ⟨h1, h2, h3⟩ := h
  refine ⟨h1, h2, h3.imp id ?_⟩
  rintro ⟨b, o, rfl, hc⟩
  refine ⟨b, o, rfl, fun i hi => ?_⟩
  have hlt : b < w.heap.size := World.block_lt_of_cell? w _ (hc i hi)
  rw [← hc i hi]
  unfold World.cell?
  simp only [ht.block b hlt (ha b o none rfl)]
theorem isRow_turned {w w' : World} {S : Nat → Prop} {a : Option Addr} {n : Nat} {V : Nat → Value} (h : IsRow w a n V) (ht : Turned S w w') (ha : Apart S a) : IsRow w' a n V := by
  intro hn
  obtain ⟨b, o, rfl, hlt, hc⟩ := h hn
  refine ⟨b, o, rfl, Nat.lt_of_lt_of_le hlt ht.size, fun i hi => ?_⟩
  rw [← hc i hi]
  unfold World.cell?
  simp only [ht.block b hlt (ha b o none rfl)]
/-- of the bytes l from off on the first k put in, where st says so -/
def putTo (ct : Nat → Nat) (off : Nat) (l : Nat → Nat) (st : Nat → Bool) : Nat → Nat → Nat
  | 0 => ct
  | k + 1 => if st k then updB (putTo ct off l st k) (off + k) (l k) else putTo ct off l st k
theorem putTo_at (ct : Nat → Nat) (off : Nat) (l : Nat → Nat) (st : Nat → Bool) (i : Nat) : ∀ k, putTo ct off l st k i = if off ≤ i ∧ i < off + k ∧ st (i - off) = true then l (i - off) else ct i
  | 0 => by rw [if_neg (by omega)]; rfl
  | k + 1 => by
    unfold putTo
    have ih := putTo_at ct off l st i k
    by_cases hs : st k = true
    · rw [if_pos hs]
      unfold updB
      by_cases hi : i = off + k
      · subst hi
        rw [if_pos rfl, Nat.add_sub_cancel_left, if_pos ⟨by omega, by omega, hs⟩]
      · rw [if_neg hi, ih]
        have : (off ≤ i ∧ i < off + k ∧ st (i - off) = true) ↔ (off ≤ i ∧ i < off + (k + 1) ∧ st (i - off) = true) := ⟨fun h => ⟨h.1, by omega, h.2.2⟩, fun h => ⟨h.1, by omega, h.2.2⟩⟩
        simp only [this]
    · rw [if_neg hs, ih]
      by_cases hi : i = off + k
      · subst hi
        rw [if_neg (by omega), if_neg]
        rw [Nat.add_sub_cancel_left]
        exact fun h => hs h.2.2
      · have : (off ≤ i ∧ i < off + k ∧ st (i - off) = true) ↔ (off ≤ i ∧ i < off + (k + 1) ∧ st (i - off) = true) := ⟨fun h => ⟨h.1, by omega, h.2.2⟩, fun h => ⟨h.1, by omega, h.2.2⟩⟩
        simp only [this]
/-- a number of an error; the world is not turned but for new blocks -/
def ErrNo (w : World) (k : Int) (e : Ending) (w' : World) : Prop := e = .returned (.int .i64 k) ∧ Below w.heap.size w w'
set_option maxRecDepth 100000 in
set_option maxHeartbeats 1000000 in
theorem ram_some_nil (x : Int) (a a2 : Option Addr) (m c m2 c2 : Nat) (w : World) : Calls Tryz.prog 84 #[.pointer none, .int .u64 x, .slice a m c, .slice a2 m2 c2] w (ErrNo w 2) := by
  have hB := Lib.hid (Below.refl w.heap.size w)
  go_enter Tryz.func84, Tryz.ntmps84
  go_wp2
  go_ret
  exact ⟨rfl, hB.out⟩
set_option maxRecDepth 100000 in
set_option maxHeartbeats 1000000 in
theorem ram_some_bus {w : World} {b n : Nat} {ct : Nat → Nat} {S : Nat → Prop} (h : RamAt w b n ct S) (x : Int) (x0 : 0 ≤ x) (x1 : x < 18446744073709551616) (a a2 : Option Addr) (m c m2 c2 : Nat) (hm : (m : Int) < 9223372036854775808) (ha : ramAll n x m = false) :
    Calls Tryz.prog 84 #[.pointer (some ⟨b, 0, none⟩), .int .u64 x, .slice a m c, .slice a2 m2 c2] w (ErrNo w 6) := by
  have HA := Lib.hid (ram_all_at h x x0 x1 m (by omega) hm)
  rw [ha] at HA
  clear h ha x0 x1
  go_enter Tryz.func84, Tryz.ntmps84
  go_wp2_with fail
  refine HA.out.mono ?_
  rintro e w1 ⟨rfl, hb⟩
  have HB := Lib.hid hb
  clear hb
  go_wp2
  go_ret
  exact ⟨rfl, HB.out⟩
/-- the strobe of index i -/
def stAt (m2 : Nat) (z : Nat → Bool) (i : Nat) : Bool := decide (i < m2) && z i
set_option maxRecDepth 100000 in
set_option maxHeartbeats 4000000 in
theorem ram_some_ok {w : World} {b n : Nat} {ct : Nat → Nat} {S : Nat → Prop} (h : RamAt w b n ct S) (x : Int) (x0 : 0 ≤ x) (x1 : x < 18446744073709551616) (a a2 : Option Addr) (m c m2 c2 : Nat) (ha : ramAll n x m = true)
    (l : List Int) (hl : IsB w a m l) (al : Apart S a) (z : Nat → Bool) (hz : IsRow w a2 m2 (fun i => .bool (z i))) (az : Apart S a2) (hm2 : (m2 : Int) ≤ 9223372036854775807) :
    Calls Tryz.prog 84 #[.pointer (some ⟨b, 0, none⟩), .int .u64 x, .slice a m c, .slice a2 m2 c2] w fun e w' => e = .returned (.int .i64 0) ∧ RamTo w w' b n (putTo ct (x - 2147483648).toNat (fun i => (l.getD i 0).toNat) (stAt m2 z) m) S := by
  have hlo := h.lo
  have hx : m = 0 ∨ (2147483648 ≤ x ∧ x - 2147483648 + m ≤ n * 4096) := by
    simp only [ramAll, isRam, Bool.or_eq_true, Bool.and_eq_true, decide_eq_true_eq] at ha
    omega
  have hk : (m : Int) ≤ 1048576 := by omega
  have HA := Lib.hid (ram_all_at h x x0 x1 m (by omega) (by omega))
  rw [ha] at HA
  have H := Lib.hid h.to
  have HX := Lib.hid hx
  have hn : (n : Int) ≤ 256 := by omega
  have HL := Lib.hid hl; have HAL := Lib.hid al; have HZ := Lib.hid hz; have HAZ := Lib.hid az
  have HF := Lib.hid (show ∀ i, i < m → (∃ b o, a = some ⟨b, o, none⟩) ∧ l.getD i 0 = ((l.getD i 0).toNat : Int) ∧ (l.getD i 0).toNat < 256 from fun i hi => by
    have h1 := hl.bd (l.getD i 0) (by have := hl.hlen; simp [List.getD, this, hi])
    refine ⟨?_, by omega, by omega⟩
    rcases hl.cell with ⟨_, h0⟩ | ⟨b, o, h, _⟩
    · omega
    · exact ⟨b, o, h⟩)
  clear h ha hx hlo hl al hz az
  generalize hO : (x - 2147483648).toNat = O at *
  have HO := Lib.hid hO
  clear hO
  have HS := Lib.hid (show ∀ k, putTo ct O (fun i => (l.getD i 0).toNat) (stAt m2 z) (k + 1) = if stAt m2 z k then updB (putTo ct O (fun i => (l.getD i 0).toNat) (stAt m2 z) k) (O + k) ((l.getD k 0).toNat) else putTo ct O (fun i => (l.getD i 0).toNat) (stAt m2 z) k from fun k => rfl)
  have HP0 := Lib.hid (show putTo ct O (fun i => (l.getD i 0).toNat) (stAt m2 z) 0 = ct from rfl)
  generalize putTo ct O (fun i => (l.getD i 0).toNat) (stAt m2 z) = F at *
  go_enter Tryz.func84, Tryz.ntmps84
  go_wp2_with fail
  refine HA.out.mono ?_
  rintro e w1 ⟨rfl, hb⟩
  have H1 : Hid (RamTo w w1 b n ct S) := H.out.below hb
  clear hb
  go_wp2_with fail
  go_loopw [23] (fun i wr => ∃ k : Nat, (k : Int) ≤ m ∧ i = .int .i64 k ∧ RamTo w wr b n (F k) S) (fun i _ => m - (intOf i).toNat)
  case atStart => exact ⟨0, by omega, rfl, by rw [HP0.out]; exact H1.out⟩
  case round =>
    clear H1
    obtain ⟨k, hk, rfl, hr⟩ := hrel
    have HR := Lib.hid hr
    clear hr
    by_cases hlt : (k : Int) < m
    · clear hk
      obtain ⟨⟨bb, oo, rfl⟩, hq, h255⟩ := HF.out k (by omega)
      obtain ⟨S', hat, ht, hsub, hnext⟩ := HR.out.step
      have hL2 := isB_turned HL.out ht HAL.out
      have hZ2 := isRow_turned HZ.out ht HAZ.out
      have hc : wr.cell? ⟨bb, oo + k, none⟩ = some (.int .u8 ((l.getD k 0).toNat : Nat)) := by
        rcases hL2.cell with ⟨h0, _⟩ | ⟨b', o', h1, h2⟩
        · cases h0
        · injection h1 with h1
          cases h1
          rw [h2 k (by omega), ← hq]
      have HN := Lib.hid hnext
      have HAT := Lib.hid hat
      have HXX := HX.out
      have hp : IntKind.u64.wrap (x - 2147483648) = x - 2147483648 := by rw [IntKind.wrap_u64]; omega
      have g0 : 0 ≤ x - 2147483648 := by omega
      have g1 : x - 2147483648 + k < 1048576 := by omega
      have HV := Lib.hid h255
      clear HXX hq h255 hat ht hsub hL2 hnext
      generalize hVV : (l.getD k 0).toNat = V at *
      have HVV := Lib.hid hVV
      clear hVV
      have fin_no : stAt m2 z k = false → Hid (RamTo w wr b n (F (k + 1)) S) := fun hs => by
        show RamTo _ _ _ _ _ _
        rw [HS.out k, hs]
        exact HR.out
      by_cases hk2 : (k : Int) < m2
      · obtain ⟨b2, o2, rfl, _, hc2⟩ := hZ2 (by omega)
        have hc3 : wr.cell? ⟨b2, o2 + k, none⟩ = some (.bool (z k)) := hc2 k (by omega)
        clear hc2 hZ2
        cases hz : z k with
        | false =>
          rw [hz] at hc3
          have FN := fin_no (by unfold stAt; simp [hz])
          clear fin_no hz
          go_wp2_with fail
          exact ⟨⟨k + 1, by omega, by rw [Int.natCast_succ], FN.out⟩, by simp [intOf]; omega⟩
        | true =>
          rw [hz] at hc3
          have FY : Hid (∀ w', RamTo wr w' b n (updB (F k) (O + k) V) S' → RamTo w w' b n (F (k + 1)) S) := fun w' hh => by
            rw [HS.out k, show stAt m2 z k = true by unfold stAt; simp [hz]; omega, if_pos rfl, HVV.out]
            exact HN.out _ _ hh
          clear fin_no hz
          go_wp2_with fail
          refine (ram_set_at HAT.out _ (by omega) (by omega) V HV.out).mono ?_
          rintro e w2 ⟨rfl, hh⟩
          have HO2 : (x - 2147483648 + (k : Int)).toNat = O + k := by have := HO.out; omega
          rw [HO2] at hh
          have FN := Lib.hid (FY.out _ hh)
          clear hh HO2
          go_wp2_with fail
          exact ⟨⟨k + 1, by omega, by rw [Int.natCast_succ], FN.out⟩, by simp [intOf]; omega⟩
      · have FN := fin_no (by unfold stAt; simp; omega)
        clear fin_no hZ2
        go_wp2_with fail
        exact ⟨⟨k + 1, by omega, by rw [Int.natCast_succ], FN.out⟩, by simp [intOf]; omega⟩
    · obtain rfl : k = m := by omega
      go_wp2_with fail
      go_ret
      exact ⟨rfl, HR.out⟩
end Go.Proofs.YtgadnacgilbanaaGreat
end
section
set_option linter.unusedVariables false
set_option linter.unusedSimpArgs false
namespace Go.Proofs.YtgadnacgilbanaaGreat
open Go.RowKit
set_option maxRecDepth 100000 in
set_option maxHeartbeats 4000000 in
theorem ram_write_ok {w : World} {b n : Nat} {ct : Nat → Nat} {S : Nat → Prop} (h : RamAt w b n ct S) (x : Int) (x0 : 0 ≤ x) (x1 : x < 18446744073709551616) (a : Option Addr) (m c : Nat) (ha : ramAll n x m = true)
    (l : List Int) (hl : IsB w a m l) (al : Apart S a) :
    Calls Tryz.prog 35 #[.pointer (some ⟨b, 0, none⟩), .int .u64 x, .slice a m c] w fun e w' => e = .returned (.int .i64 0) ∧ RamTo w w' b n (putTo ct (x - 2147483648).toNat (fun i => (l.getD i 0).toNat) (fun _ => true) m) S := by
  have hlo := h.lo
  have hk : (m : Int) ≤ 1048576 := by
    simp only [ramAll, isRam, Bool.or_eq_true, Bool.and_eq_true, decide_eq_true_eq] at ha
    omega
  have HK := Lib.hid (show ∀ i, i < m → stAt m (fun _ => true) i = (fun _ => true) i from fun i hi => by simp [stAt, hi])
  have H := Lib.hid h
  have HA := Lib.hid ha
  have HL := Lib.hid hl
  have HAL := Lib.hid al
  have HLT := Lib.hid (fun g (hg : S g) => h.lt hg)
  clear h ha hl al hlo
  have hmk : ∀ wq, (Instr.makeSlice 126 (.int .i64 (m : Int)) (.int .i64 (m : Int))).run Tryz.prog wq = .ok (.slice (some ⟨wq.heap.size, 0, none⟩) m m) (wq.alloc (.cells (madeCells #[.bool false] m) 4)) := fun wq => run_make_row' (P := Tryz.prog) 126 4 (.bool false) 1 Tryz.underlying126 A_info4 rfl .i64 .i64 m (by omega) (by omega) wq
  go_enter Tryz.func35, Tryz.ntmps35
  go_wp2_with fail
  clear hmk
  go_loopw [14] (fun i wr => ∃ k : Nat, (k : Int) ≤ m ∧ i = .int .i64 k ∧ wr.rowIs w.heap.size 4 m (fun j => .bool (decide (j < k))) ∧ Below w.heap.size w wr) (fun i _ => m - (intOf i).toNat)
  case atStart => exact ⟨0, by omega, rfl, (World.rowIs_made w (.bool false) m 4).congr (fun i _ => by simp), (Below.refl _ _).alloc (Nat.le_refl _) _⟩
  case round =>
    obtain ⟨k, hk2, rfl, hr, hb⟩ := hrel
    have HB := Lib.hid hb
    clear hb
    by_cases hlt : (k : Int) < m
    · have hc := hr.cell (i := k) (by omega)
      have hf := hr.frozen k
      simp only [Nat.lt_irrefl, decide_false] at hc
      have HS : Hid ((wr.setCell ⟨w.heap.size, k, none⟩ (.bool true)).rowIs w.heap.size 4 m (fun j => .bool (decide (j < k + 1)))) := (hr.set k (.bool true)).congr fun i _ => by
        by_cases hi : i = k
        · subst hi; simp
        · rw [if_neg hi]
          have : (i < k) ↔ (i < k + 1) := by omega
          simp only [this]
      clear hr hk2
      go_wp2_with fail
      exact ⟨⟨k + 1, by omega, by rw [Int.natCast_succ], HS.out, HB.out.setCell (Nat.le_refl _) _⟩, by simp [intOf]; omega⟩
    · obtain rfl : k = m := by omega
      have HR := Lib.hid hr
      have HAT := Lib.hid (H.out.below HB.out)
      have HL2 := Lib.hid (isB_turned HL.out (Turned.of_below HB.out S) HAL.out)
      have HRW : Hid (IsRow wr (some ⟨w.heap.size, 0, none⟩) k (fun i => .bool ((fun _ => true) i))) := by
        intro _
        refine ⟨w.heap.size, 0, rfl, HR.out.lt, fun i hi => ?_⟩
        rw [Nat.zero_add, HR.out.cell hi]
        simp [hi]
      have HAP : Hid (Apart S (some ⟨w.heap.size, 0, none⟩)) := by
        rintro b' o s he hS
        injection he with he
        injection he with he
        have := HLT.out b' hS
        omega
      clear hr hk2 HR
      go_wp2_with fail
      refine (ram_some_ok HAT.out x x0 x1 a _ k c k k HA.out l HL2.out HAL.out (fun _ => true) HRW.out HAP.out (by omega)).mono ?_
      rintro e w2 ⟨rfl, hh⟩
      have HF := Lib.hid (hh.from_below HB.out)
      clear hh
      go_wp2_with fail
      go_ret
      refine ⟨rfl, ?_⟩
      have e1 : putTo ct (x - 2147483648).toNat (fun i => (l.getD i 0).toNat) (fun _ => true) k = putTo ct (x - 2147483648).toNat (fun i => (l.getD i 0).toNat) (stAt k fun _ => true) k := by
        funext i
        rw [putTo_at, putTo_at]
        by_cases hi : (x - 2147483648).toNat ≤ i ∧ i < (x - 2147483648).toNat + k
        · rw [HK.out _ (by omega)]
        · rw [if_neg (fun h => hi ⟨h.1, h.2.1⟩), if_neg (fun h => hi ⟨h.1, h.2.1⟩)]
      rw [e1]
      exact HF.out
set_option maxRecDepth 100000 in
set_option maxHeartbeats 4000000 in
theorem ram_write_nil  (x : Int) (a : Option Addr) (m c : Nat) (hm : (m : Int) ≤ 140737488355328) (w : World) :
    Calls Tryz.prog 35 #[.pointer none, .int .u64 x, .slice a m c] w (ErrNo w 2) := by
  skip
  have hmk : ∀ wq, (Instr.makeSlice 126 (.int .i64 (m : Int)) (.int .i64 (m : Int))).run Tryz.prog wq = .ok (.slice (some ⟨wq.heap.size, 0, none⟩) m m) (wq.alloc (.cells (madeCells #[.bool false] m) 4)) := fun wq => run_make_row' (P := Tryz.prog) 126 4 (.bool false) 1 Tryz.underlying126 A_info4 rfl .i64 .i64 m (by omega) (by omega) wq
  go_enter Tryz.func35, Tryz.ntmps35
  go_wp2_with fail
  clear hmk
  go_loopw [14] (fun i wr => ∃ k : Nat, (k : Int) ≤ m ∧ i = .int .i64 k ∧ wr.rowIs w.heap.size 4 m (fun j => .bool (decide (j < k))) ∧ Below w.heap.size w wr) (fun i _ => m - (intOf i).toNat)
  case atStart => exact ⟨0, by omega, rfl, (World.rowIs_made w (.bool false) m 4).congr (fun i _ => by simp), (Below.refl _ _).alloc (Nat.le_refl _) _⟩
  case round =>
    obtain ⟨k, hk2, rfl, hr, hb⟩ := hrel
    have HB := Lib.hid hb
    clear hb
    by_cases hlt : (k : Int) < m
    · have hc := hr.cell (i := k) (by omega)
      have hf := hr.frozen k
      simp only [Nat.lt_irrefl, decide_false] at hc
      have HS : Hid ((wr.setCell ⟨w.heap.size, k, none⟩ (.bool true)).rowIs w.heap.size 4 m (fun j => .bool (decide (j < k + 1)))) := (hr.set k (.bool true)).congr fun i _ => by
        by_cases hi : i = k
        · subst hi; simp
        · rw [if_neg hi]
          have : (i < k) ↔ (i < k + 1) := by omega
          simp only [this]
      clear hr hk2
      go_wp2_with fail
      exact ⟨⟨k + 1, by omega, by rw [Int.natCast_succ], HS.out, HB.out.setCell (Nat.le_refl _) _⟩, by simp [intOf]; omega⟩
    · obtain rfl : k = m := by omega
      skip
      clear hr hk2
      go_wp2_with fail
      refine (ram_some_nil x a _ k c k k _).mono ?_
      rintro e w2 ⟨rfl, hh⟩
      have HF : Hid (Below w.heap.size w w2) := below_then HB.out hh HB.out.size
      clear hh
      go_wp2_with fail
      go_ret
      exact ⟨rfl, HF.out⟩
set_option maxRecDepth 100000 in
set_option maxHeartbeats 4000000 in
theorem ram_write_bus {w : World} {b n : Nat} {ct : Nat → Nat} {S : Nat → Prop} (h : RamAt w b n ct S) (x : Int) (x0 : 0 ≤ x) (x1 : x < 18446744073709551616) (a : Option Addr) (m c : Nat) (hm : (m : Int) ≤ 140737488355328) (ha : ramAll n x m = false) :
    Calls Tryz.prog 35 #[.pointer (some ⟨b, 0, none⟩), .int .u64 x, .slice a m c] w (ErrNo w 6) := by
  have H := Lib.hid h
  have HA := Lib.hid ha
  clear h ha
  have hmk : ∀ wq, (Instr.makeSlice 126 (.int .i64 (m : Int)) (.int .i64 (m : Int))).run Tryz.prog wq = .ok (.slice (some ⟨wq.heap.size, 0, none⟩) m m) (wq.alloc (.cells (madeCells #[.bool false] m) 4)) := fun wq => run_make_row' (P := Tryz.prog) 126 4 (.bool false) 1 Tryz.underlying126 A_info4 rfl .i64 .i64 m (by omega) (by omega) wq
  go_enter Tryz.func35, Tryz.ntmps35
  go_wp2_with fail
  clear hmk
  go_loopw [14] (fun i wr => ∃ k : Nat, (k : Int) ≤ m ∧ i = .int .i64 k ∧ wr.rowIs w.heap.size 4 m (fun j => .bool (decide (j < k))) ∧ Below w.heap.size w wr) (fun i _ => m - (intOf i).toNat)
  case atStart => exact ⟨0, by omega, rfl, (World.rowIs_made w (.bool false) m 4).congr (fun i _ => by simp), (Below.refl _ _).alloc (Nat.le_refl _) _⟩
  case round =>
    obtain ⟨k, hk2, rfl, hr, hb⟩ := hrel
    have HB := Lib.hid hb
    clear hb
    by_cases hlt : (k : Int) < m
    · have hc := hr.cell (i := k) (by omega)
      have hf := hr.frozen k
      simp only [Nat.lt_irrefl, decide_false] at hc
      have HS : Hid ((wr.setCell ⟨w.heap.size, k, none⟩ (.bool true)).rowIs w.heap.size 4 m (fun j => .bool (decide (j < k + 1)))) := (hr.set k (.bool true)).congr fun i _ => by
        by_cases hi : i = k
        · subst hi; simp
        · rw [if_neg hi]
          have : (i < k) ↔ (i < k + 1) := by omega
          simp only [this]
      clear hr hk2
      go_wp2_with fail
      exact ⟨⟨k + 1, by omega, by rw [Int.natCast_succ], HS.out, HB.out.setCell (Nat.le_refl _) _⟩, by simp [intOf]; omega⟩
    · obtain rfl : k = m := by omega
      have HAT := Lib.hid (H.out.below HB.out)
      clear hr hk2
      go_wp2_with fail
      refine (ram_some_bus HAT.out x x0 x1 a _ k c k k (by omega) HA.out).mono ?_
      rintro e w2 ⟨rfl, hh⟩
      have HF : Hid (Below w.heap.size w w2) := below_then HB.out hh HB.out.size
      clear hh
      go_wp2_with fail
      go_ret
      exact ⟨rfl, HF.out⟩
/-- why there is no such word: 0 if there is -/
def mayErr (n : Nat) (x : Int) (k : Int) : Int :=
  if k = 1 ∨ k = 2 ∨ k = 4 ∨ k = 8 then (if x % k = 0 then (if ramAll n x k then 0 else 6) else 5) else 1
set_option maxRecDepth 100000 in
set_option maxHeartbeats 1000000 in
theorem ram_may_nil (x k : Int) (w : World) : Calls Tryz.prog 65 #[.pointer none, .int .u64 x, .int .i64 k] w (ErrNo w 2) := by
  have hB := Lib.hid (Below.refl w.heap.size w)
  go_enter Tryz.func65, Tryz.ntmps65
  go_wp2
  go_ret
  exact ⟨rfl, hB.out⟩
set_option maxRecDepth 100000 in
set_option maxHeartbeats 1000000 in
theorem ram_may_arg (b : Nat) (x k : Int) (h1 : ¬ k = 1) (h2 : ¬ k = 2) (h4 : ¬ k = 4) (h8 : ¬ k = 8) (w : World) : Calls Tryz.prog 65 #[.pointer (some ⟨b, 0, none⟩), .int .u64 x, .int .i64 k] w (ErrNo w 1) := by
  have hB := Lib.hid (Below.refl w.heap.size w)
  have e1 : (k != 1) = true := by simpa using h1
  have e2 : (k != 2) = true := by simpa using h2
  have e4 : (k != 4) = true := by simpa using h4
  have e8 : (k != 8) = true := by simpa using h8
  clear h1 h2 h4 h8
  go_enter Tryz.func65, Tryz.ntmps65
  go_wp2_with fail
  go_ret
  exact ⟨rfl, hB.out⟩
set_option maxRecDepth 100000 in
set_option maxHeartbeats 2000000 in
theorem ram_may_1 {w : World} {b n : Nat} {ct : Nat → Nat} {S : Nat → Prop} (h : RamAt w b n ct S) (x : Int) (x0 : 0 ≤ x) (x1 : x < 18446744073709551616) :
    Calls Tryz.prog 65 #[.pointer (some ⟨b, 0, none⟩), .int .u64 x, .int .i64 1] w (ErrNo w (mayErr n x 1)) := by
  have HM := Lib.hid (show mayErr n x 1 = if x % 1 = 0 then (if ramAll n x 1 then 0 else 6) else 5 by unfold mayErr; rw [if_pos (by omega)])
  have HAL := Lib.hid (bits_aligned x x0 1 (by omega) (by omega))
  have HA := Lib.hid (fun wq (hq : RamAt wq b n ct S) => ram_all_at hq x x0 x1 1 (by omega) (by omega))
  have H := Lib.hid h
  clear h x0 x1
  generalize hR : ramAll n x 1 = R at *
  by_cases hx : x % 1 = 0
  · rw [if_pos hx] at HM
    rw [show decide (x % (1 : Nat) = 0) = true from decide_eq_true (show x % ((1 : Nat) : Int) = 0 from hx)] at HAL
    have hx := Lib.hid hx
    cases R with
    | true =>
      go_enter Tryz.func65, Tryz.ntmps65
      go_wp2_with fail
      refine (HAL.out _).mono ?_
      rintro e w1 ⟨rfl, rfl⟩
      go_wp2_with fail
      refine (HA.out _ H.out).mono ?_
      rintro e w1 ⟨rfl, hb⟩
      have HB := Lib.hid hb
      clear hb
      go_wp2_with fail
      go_ret
      exact ⟨ret_int (by rw [HM.out]; rfl), HB.out⟩
    | false =>
      go_enter Tryz.func65, Tryz.ntmps65
      go_wp2_with fail
      refine (HAL.out _).mono ?_
      rintro e w1 ⟨rfl, rfl⟩
      go_wp2_with fail
      refine (HA.out _ H.out).mono ?_
      rintro e w1 ⟨rfl, hb⟩
      have HB := Lib.hid hb
      clear hb
      go_wp2_with fail
      go_ret
      exact ⟨ret_int (by rw [HM.out]; rfl), HB.out⟩
  · rw [if_neg hx] at HM
    rw [show decide (x % (1 : Nat) = 0) = false from decide_eq_false (show ¬ x % ((1 : Nat) : Int) = 0 from hx)] at HAL
    have hx := Lib.hid hx
    have hB := Lib.hid (Below.refl w.heap.size w)
    go_enter Tryz.func65, Tryz.ntmps65
    go_wp2_with fail
    refine (HAL.out _).mono ?_
    rintro e w1 ⟨rfl, rfl⟩
    go_wp2_with fail
    go_ret
    exact ⟨ret_int (by rw [HM.out]), hB.out⟩
set_option maxRecDepth 100000 in
set_option maxHeartbeats 2000000 in
theorem ram_may_2 {w : World} {b n : Nat} {ct : Nat → Nat} {S : Nat → Prop} (h : RamAt w b n ct S) (x : Int) (x0 : 0 ≤ x) (x1 : x < 18446744073709551616) :
    Calls Tryz.prog 65 #[.pointer (some ⟨b, 0, none⟩), .int .u64 x, .int .i64 2] w (ErrNo w (mayErr n x 2)) := by
  have HM := Lib.hid (show mayErr n x 2 = if x % 2 = 0 then (if ramAll n x 2 then 0 else 6) else 5 by unfold mayErr; rw [if_pos (by omega)])
  have HAL := Lib.hid (bits_aligned x x0 2 (by omega) (by omega))
  have HA := Lib.hid (fun wq (hq : RamAt wq b n ct S) => ram_all_at hq x x0 x1 2 (by omega) (by omega))
  have H := Lib.hid h
  clear h x0 x1
  generalize hR : ramAll n x 2 = R at *
  by_cases hx : x % 2 = 0
  · rw [if_pos hx] at HM
    rw [show decide (x % (2 : Nat) = 0) = true from decide_eq_true (show x % ((2 : Nat) : Int) = 0 from hx)] at HAL
    have hx := Lib.hid hx
    cases R with
    | true =>
      go_enter Tryz.func65, Tryz.ntmps65
      go_wp2_with fail
      refine (HAL.out _).mono ?_
      rintro e w1 ⟨rfl, rfl⟩
      go_wp2_with fail
      refine (HA.out _ H.out).mono ?_
      rintro e w1 ⟨rfl, hb⟩
      have HB := Lib.hid hb
      clear hb
      go_wp2_with fail
      go_ret
      exact ⟨ret_int (by rw [HM.out]; rfl), HB.out⟩
    | false =>
      go_enter Tryz.func65, Tryz.ntmps65
      go_wp2_with fail
      refine (HAL.out _).mono ?_
      rintro e w1 ⟨rfl, rfl⟩
      go_wp2_with fail
      refine (HA.out _ H.out).mono ?_
      rintro e w1 ⟨rfl, hb⟩
      have HB := Lib.hid hb
      clear hb
      go_wp2_with fail
      go_ret
      exact ⟨ret_int (by rw [HM.out]; rfl), HB.out⟩
  · rw [if_neg hx] at HM
    rw [show decide (x % (2 : Nat) = 0) = false from decide_eq_false (show ¬ x % ((2 : Nat) : Int) = 0 from hx)] at HAL
    have hx := Lib.hid hx
    have hB := Lib.hid (Below.refl w.heap.size w)
    go_enter Tryz.func65, Tryz.ntmps65
    go_wp2_with fail
    refine (HAL.out _).mono ?_
    rintro e w1 ⟨rfl, rfl⟩
    go_wp2_with fail
    go_ret
    exact ⟨ret_int (by rw [HM.out]), hB.out⟩
set_option maxRecDepth 100000 in
set_option maxHeartbeats 2000000 in
theorem ram_may_4 {w : World} {b n : Nat} {ct : Nat → Nat} {S : Nat → Prop} (h : RamAt w b n ct S) (x : Int) (x0 : 0 ≤ x) (x1 : x < 18446744073709551616) :
    Calls Tryz.prog 65 #[.pointer (some ⟨b, 0, none⟩), .int .u64 x, .int .i64 4] w (ErrNo w (mayErr n x 4)) := by
  have HM := Lib.hid (show mayErr n x 4 = if x % 4 = 0 then (if ramAll n x 4 then 0 else 6) else 5 by unfold mayErr; rw [if_pos (by omega)])
  have HAL := Lib.hid (bits_aligned x x0 4 (by omega) (by omega))
  have HA := Lib.hid (fun wq (hq : RamAt wq b n ct S) => ram_all_at hq x x0 x1 4 (by omega) (by omega))
  have H := Lib.hid h
  clear h x0 x1
  generalize hR : ramAll n x 4 = R at *
  by_cases hx : x % 4 = 0
  · rw [if_pos hx] at HM
    rw [show decide (x % (4 : Nat) = 0) = true from decide_eq_true (show x % ((4 : Nat) : Int) = 0 from hx)] at HAL
    have hx := Lib.hid hx
    cases R with
    | true =>
      go_enter Tryz.func65, Tryz.ntmps65
      go_wp2_with fail
      refine (HAL.out _).mono ?_
      rintro e w1 ⟨rfl, rfl⟩
      go_wp2_with fail
      refine (HA.out _ H.out).mono ?_
      rintro e w1 ⟨rfl, hb⟩
      have HB := Lib.hid hb
      clear hb
      go_wp2_with fail
      go_ret
      exact ⟨ret_int (by rw [HM.out]; rfl), HB.out⟩
    | false =>
      go_enter Tryz.func65, Tryz.ntmps65
      go_wp2_with fail
      refine (HAL.out _).mono ?_
      rintro e w1 ⟨rfl, rfl⟩
      go_wp2_with fail
      refine (HA.out _ H.out).mono ?_
      rintro e w1 ⟨rfl, hb⟩
      have HB := Lib.hid hb
      clear hb
      go_wp2_with fail
      go_ret
      exact ⟨ret_int (by rw [HM.out]; rfl), HB.out⟩
  · rw [if_neg hx] at HM
    rw [show decide (x % (4 : Nat) = 0) = false from decide_eq_false (show ¬ x % ((4 : Nat) : Int) = 0 from hx)] at HAL
    have hx := Lib.hid hx
    have hB := Lib.hid (Below.refl w.heap.size w)
    go_enter Tryz.func65, Tryz.ntmps65
    go_wp2_with fail
    refine (HAL.out _).mono ?_
    rintro e w1 ⟨rfl, rfl⟩
    go_wp2_with fail
    go_ret
    exact ⟨ret_int (by rw [HM.out]), hB.out⟩
set_option maxRecDepth 100000 in
set_option maxHeartbeats 2000000 in
theorem ram_may_8 {w : World} {b n : Nat} {ct : Nat → Nat} {S : Nat → Prop} (h : RamAt w b n ct S) (x : Int) (x0 : 0 ≤ x) (x1 : x < 18446744073709551616) :
    Calls Tryz.prog 65 #[.pointer (some ⟨b, 0, none⟩), .int .u64 x, .int .i64 8] w (ErrNo w (mayErr n x 8)) := by
  have HM := Lib.hid (show mayErr n x 8 = if x % 8 = 0 then (if ramAll n x 8 then 0 else 6) else 5 by unfold mayErr; rw [if_pos (by omega)])
  have HAL := Lib.hid (bits_aligned x x0 8 (by omega) (by omega))
  have HA := Lib.hid (fun wq (hq : RamAt wq b n ct S) => ram_all_at hq x x0 x1 8 (by omega) (by omega))
  have H := Lib.hid h
  clear h x0 x1
  generalize hR : ramAll n x 8 = R at *
  by_cases hx : x % 8 = 0
  · rw [if_pos hx] at HM
    rw [show decide (x % (8 : Nat) = 0) = true from decide_eq_true (show x % ((8 : Nat) : Int) = 0 from hx)] at HAL
    have hx := Lib.hid hx
    cases R with
    | true =>
      go_enter Tryz.func65, Tryz.ntmps65
      go_wp2_with fail
      refine (HAL.out _).mono ?_
      rintro e w1 ⟨rfl, rfl⟩
      go_wp2_with fail
      refine (HA.out _ H.out).mono ?_
      rintro e w1 ⟨rfl, hb⟩
      have HB := Lib.hid hb
      clear hb
      go_wp2_with fail
      go_ret
      exact ⟨ret_int (by rw [HM.out]; rfl), HB.out⟩
    | false =>
      go_enter Tryz.func65, Tryz.ntmps65
      go_wp2_with fail
      refine (HAL.out _).mono ?_
      rintro e w1 ⟨rfl, rfl⟩
      go_wp2_with fail
      refine (HA.out _ H.out).mono ?_
      rintro e w1 ⟨rfl, hb⟩
      have HB := Lib.hid hb
      clear hb
      go_wp2_with fail
      go_ret
      exact ⟨ret_int (by rw [HM.out]; rfl), HB.out⟩
  · rw [if_neg hx] at HM
    rw [show decide (x % (8 : Nat) = 0) = false from decide_eq_false (show ¬ x % ((8 : Nat) : Int) = 0 from hx)] at HAL
    have hx := Lib.hid hx
    have hB := Lib.hid (Below.refl w.heap.size w)
    go_enter Tryz.func65, Tryz.ntmps65
    go_wp2_with fail
    refine (HAL.out _).mono ?_
    rintro e w1 ⟨rfl, rfl⟩
    go_wp2_with fail
    go_ret
    exact ⟨ret_int (by rw [HM.out]), hB.out⟩
theorem ram_may {w : World} {b n : Nat} {ct : Nat → Nat} {S : Nat → Prop} (h : RamAt w b n ct S) (x : Int) (x0 : 0 ≤ x) (x1 : x < 18446744073709551616) (k : Int) :
    Calls Tryz.prog 65 #[.pointer (some ⟨b, 0, none⟩), .int .u64 x, .int .i64 k] w (ErrNo w (mayErr n x k)) := by
  by_cases h1 : k = 1
  · subst h1; exact ram_may_1 h x x0 x1
  by_cases h2 : k = 2
  · subst h2; exact ram_may_2 h x x0 x1
  by_cases h4 : k = 4
  · subst h4; exact ram_may_4 h x x0 x1
  by_cases h8 : k = 8
  · subst h8; exact ram_may_8 h x x0 x1
  have e : mayErr n x k = 1 := by unfold mayErr; rw [if_neg (by omega)]
  rw [e]
  exact ram_may_arg b x k h1 h2 h4 h8 w
end Go.Proofs.YtgadnacgilbanaaGreat
end
section
set_option linter.unusedVariables false
set_option linter.unusedSimpArgs false
namespace Go.Proofs.YtgadnacgilbanaaGreat
open Go.RowKit
/-- a memory that is all 0, in new blocks -/
def NewRam (w : World) (n : Nat) (e : Ending) (w' : World) : Prop := ∃ b S, e = .returned (.tuple #[.pointer (some ⟨b, 0, none⟩), .int .i64 0]) ∧ RamAt w' b n (fun _ => 0) S ∧ (∀ g, S g → w.heap.size ≤ g) ∧ w.heap.size ≤ b ∧ Below w.heap.size w w'
theorem new_ram (w w' : World) (n : Nat) (h4 : 4 ≤ n) (h256 : n ≤ 256) (hw : w' = (w.alloc (.map #[] 0)).alloc (.cells #[.int .i64 n, .map (some w.heap.size)] 99)) : RamAt w' (w.heap.size + 1) n (fun _ => 0) (RamOwn w.heap.size fun _ => none) := by
  subst hw
  refine ⟨w.heap.size, fun _ => none, ⟨?_, h4, h256, ⟨.map [], (PgMap.new w).kept ?_⟩, (fun k g h => by cases h), fun _ _ _ _ => rfl, (fun k k' g h => by cases h), fun _ => by omega, (fun k h => by cases h)⟩, rfl⟩
  · have := blk_alloc (w.alloc (.map #[] 0)) (.cells #[.int .i64 n, .map (some w.heap.size)] 99)
    simpa using this
  · exact blk_alloc_old _ _ _ (by simp)
set_option maxRecDepth 100000 in
set_option maxHeartbeats 1000000 in
theorem ram_new (n : Nat) (h4 : 4 ≤ n) (h256 : n ≤ 256) (w : World) : Calls Tryz.prog 34 #[.int .i64 n] w (NewRam w n) := by
  have h1 : (4 : Int) ≤ n := by omega
  have h2 : (n : Int) ≤ 256 := by omega
  have HN := Lib.hid (new_ram w _ n h4 h256 rfl)
  have HB := Lib.hid (((Below.refl w.heap.size w).alloc (Nat.le_refl _) (.map #[] 0)).alloc (by simp) (.cells #[.int .i64 n, .map (some w.heap.size)] 99))
  clear h4 h256
  have hmm := @run_makeMap Tryz.prog
  go_enter Tryz.func34, Tryz.ntmps34
  go_wp2_with fail
  clear hmm
  go_ret2
  exact ⟨w.heap.size + 1, _, rfl, HN.out, (by rintro g (rfl | ⟨k, hk⟩); exact Nat.le_refl _; cases hk), by omega, HB.out⟩
set_option maxRecDepth 100000 in
set_option maxHeartbeats 1000000 in
theorem ram_new_arg (n : Int) (h : n < 4 ∨ 256 < n) (w : World) : Calls Tryz.prog 34 #[.int .i64 n] w fun e w' => e = .returned (.tuple #[.pointer none, .int .i64 1]) ∧ w = w' := by
  by_cases h4 : n < 4
  · clear h
    go_enter Tryz.func34, Tryz.ntmps34
    go_wp2_with fail
    go_ret2
    exact ⟨rfl, rfl⟩
  · have h256 : 256 < n := by omega
    have h4 : 4 ≤ n := by omega
    clear h
    go_enter Tryz.func34, Tryz.ntmps34
    go_wp2_with fail
    go_ret2
    exact ⟨rfl, rfl⟩
theorem mayErr_0 {n : Nat} {x k : Int} (h : mayErr n x k = 0) : (k = 1 ∨ k = 2 ∨ k = 4 ∨ k = 8) ∧ x % k = 0 ∧ ramAll n x k = true := by
  unfold mayErr at h
  split at h
  · rename_i hk
    split at h
    · rename_i hx
      split at h
      · rename_i ha
        exact ⟨hk, hx, ha⟩
      · omega
    · omega
  · omega
/-- a number of an error that is none, or the word -/
def WordOr (w : World) (e : Ending) (w' : World) (er : Int) (v : Nat) : Prop := e = .returned (.tuple #[.int .u64 v, .int .i64 er]) ∧ Below w.heap.size w w'
set_option maxRecDepth 100000 in
set_option maxHeartbeats 1000000 in
theorem ram_word_nil (x k : Int) (w : World) : Calls Tryz.prog 83 #[.pointer none, .int .u64 x, .int .i64 k] w (WordOr w · · 2 0) := by
  go_enter Tryz.func83, Tryz.ntmps83
  go_wp2_with fail
  refine (ram_may_nil x k _).mono ?_
  rintro e w1 ⟨rfl, hb⟩
  have HB := Lib.hid hb
  clear hb
  go_wp2_with fail
  go_ret2
  exact ⟨rfl, HB.out⟩
set_option maxRecDepth 100000 in
set_option maxHeartbeats 1000000 in
theorem ram_word_err {w : World} {b n : Nat} {ct : Nat → Nat} {S : Nat → Prop} (h : RamAt w b n ct S) (x : Int) (x0 : 0 ≤ x) (x1 : x < 18446744073709551616) (k : Int) (hm : mayErr n x k ≠ 0) :
    Calls Tryz.prog 83 #[.pointer (some ⟨b, 0, none⟩), .int .u64 x, .int .i64 k] w (WordOr w · · (mayErr n x k) 0) := by
  have HM := Lib.hid (ram_may h x x0 x1 k)
  generalize mayErr n x k = E at *
  have he : (E != 0) = true := by simpa using hm
  clear h x0 x1 hm
  go_enter Tryz.func83, Tryz.ntmps83
  go_wp2_with fail
  refine HM.out.mono ?_
  rintro e w1 ⟨rfl, hb⟩
  have HB := Lib.hid hb
  clear hb
  go_wp2_with fail
  go_ret2
  exact ⟨rfl, HB.out⟩
/-- the word of so many bytes from off on -/
def wordAt (ct : Nat → Nat) (off k : Nat) : Nat := wordN (fun i => ct (off + i)) k
set_option maxRecDepth 100000 in
set_option maxHeartbeats 1000000 in
theorem ram_word_ok {w : World} {b n : Nat} {ct : Nat → Nat} {S : Nat → Prop} (h : RamAt w b n ct S) (x : Int) (x0 : 0 ≤ x) (x1 : x < 18446744073709551616) (k : Int) (hm : mayErr n x k = 0) :
    Calls Tryz.prog 83 #[.pointer (some ⟨b, 0, none⟩), .int .u64 x, .int .i64 k] w (WordOr w · · 0 (wordAt ct (x - 2147483648).toNat k.toNat)) := by
  have HM := Lib.hid (ram_may h x x0 x1 k)
  obtain ⟨hk, _, ha⟩ := mayErr_0 hm
  rw [hm] at HM
  obtain ⟨m, rfl⟩ := Int.eq_ofNat_of_zero_le (show 0 ≤ k by omega)
  have hm8 : (m : Int) ≤ 8 := by omega
  have HR := Lib.hid (fun wq (hq : RamAt wq b n ct S) => ram_read_ok hq x x0 x1 m ha)
  have H := Lib.hid h
  have HBD := Lib.hid (bytesAt_bd h.bd (x - 2147483648).toNat m)
  have HWD : Hid (wordN (fun i => ((bytesAt ct (x - 2147483648).toNat m).getD i 0).toNat) (min m 8) = wordAt ct (x - 2147483648).toNat m) := by
    show _ = _
    rw [show min m 8 = m by omega]
    refine wordN_congr m fun i hi => ?_
    rw [bytesAt_getD _ _ _ _ hi]
    simp
  clear h hk ha x0 x1 hm
  rw [Int.toNat_natCast]
  generalize bytesAt ct (x - 2147483648).toNat m = L at *
  generalize wordAt ct (x - 2147483648).toNat m = V at *
  go_enter Tryz.func83, Tryz.ntmps83
  go_wp2_with fail
  refine HM.out.mono ?_
  rintro e w1 ⟨rfl, hb⟩
  have HB := Lib.hid hb
  clear hb
  go_wp2_with fail
  refine (HR.out _ (H.out.below HB.out)).mono ?_
  rintro e w2 ⟨v, rfl, hown, hb⟩
  obtain ⟨a, c, rfl, hib⟩ := bytes_own hown HBD.out
  have HB2 : Hid (Below w.heap.size w w2) := below_then HB.out hb HB.out.size
  have HIB := Lib.hid hib
  clear hb hown hib
  go_wp2_with fail
  refine (bits_word a m c L _ HIB.out (by omega)).mono ?_
  rintro e w3 ⟨rfl, rfl⟩
  rw [HWD.out]
  go_wp2_with fail
  go_ret2
  exact ⟨rfl, HB2.out⟩
set_option maxRecDepth 100000 in
set_option maxHeartbeats 1000000 in
theorem ram_put_nil (x k v : Int) (w : World) : Calls Tryz.prog 25 #[.pointer none, .int .u64 x, .int .i64 k, .int .u64 v] w (ErrNo w 2) := by
  go_enter Tryz.func25, Tryz.ntmps25
  go_wp2_with fail
  refine (ram_may_nil x k _).mono ?_
  rintro e w1 ⟨rfl, hb⟩
  have HB := Lib.hid hb
  clear hb
  go_wp2_with fail
  go_ret
  exact ⟨rfl, HB.out⟩
set_option maxRecDepth 100000 in
set_option maxHeartbeats 1000000 in
theorem ram_put_err {w : World} {b n : Nat} {ct : Nat → Nat} {S : Nat → Prop} (h : RamAt w b n ct S) (x : Int) (x0 : 0 ≤ x) (x1 : x < 18446744073709551616) (k v : Int) (hm : mayErr n x k ≠ 0) :
    Calls Tryz.prog 25 #[.pointer (some ⟨b, 0, none⟩), .int .u64 x, .int .i64 k, .int .u64 v] w (ErrNo w (mayErr n x k)) := by
  have HM := Lib.hid (ram_may h x x0 x1 k)
  generalize mayErr n x k = E at *
  have he : (E != 0) = true := by simpa using hm
  clear h x0 x1 hm
  go_enter Tryz.func25, Tryz.ntmps25
  go_wp2_with fail
  refine HM.out.mono ?_
  rintro e w1 ⟨rfl, hb⟩
  have HB := Lib.hid hb
  clear hb
  go_wp2_with fail
  go_ret
  exact ⟨rfl, HB.out⟩
/-- a number's bytes put in -/
def putWord (ct : Nat → Nat) (off k v : Nat) : Nat → Nat := fun i => if off ≤ i ∧ i < off + k then v / 2 ^ (8 * (i - off)) % 256 else ct i
theorem numBytes_getD (v k i : Nat) (h : i < k) : (numBytes v k).getD i 0 = ((v / 2 ^ (8 * i) % 256 : Nat) : Int) := by simp [numBytes, List.getD, h]
theorem putTo_word (ct : Nat → Nat) (off k v : Nat) : putTo ct off (fun i => ((numBytes v k).getD i 0).toNat) (fun _ => true) k = putWord ct off k v := by
  funext i
  rw [putTo_at]
  unfold putWord
  by_cases hi : off ≤ i ∧ i < off + k
  · rw [if_pos ⟨hi.1, hi.2, rfl⟩, if_pos hi, numBytes_getD _ _ _ (by omega)]
    omega
  · rw [if_neg (fun h => hi ⟨h.1, h.2.1⟩), if_neg hi]
set_option maxRecDepth 100000 in
set_option maxHeartbeats 1000000 in
theorem ram_put_ok {w : World} {b n : Nat} {ct : Nat → Nat} {S : Nat → Prop} (h : RamAt w b n ct S) (x : Int) (x0 : 0 ≤ x) (x1 : x < 18446744073709551616) (k : Int) (v : Nat) (hm : mayErr n x k = 0) :
    Calls Tryz.prog 25 #[.pointer (some ⟨b, 0, none⟩), .int .u64 x, .int .i64 k, .int .u64 v] w fun e w' => e = .returned (.int .i64 0) ∧ RamTo w w' b n (putWord ct (x - 2147483648).toNat k.toNat v) S := by
  have HM := Lib.hid (ram_may h x x0 x1 k)
  obtain ⟨hk, _, ha⟩ := mayErr_0 hm
  rw [hm] at HM
  obtain ⟨m, rfl⟩ := Int.eq_ofNat_of_zero_le (show 0 ≤ k by omega)
  have hm8 : (m : Int) ≤ 8 := by omega
  have H := Lib.hid h
  have HA := Lib.hid ha
  have HX := Lib.hid (And.intro x0 x1)
  have HLT := Lib.hid (fun g (hg : S g) => h.lt hg)
  clear h hk ha x0 x1 hm
  rw [Int.toNat_natCast]
  go_enter Tryz.func25, Tryz.ntmps25
  go_wp2_with fail
  refine HM.out.mono ?_
  rintro e w1 ⟨rfl, hb⟩
  have HB := Lib.hid hb
  clear hb
  go_wp2_with fail
  refine (bits_bytes v m hm8 _).mono ?_
  rintro e w2 ⟨s, rfl, hown, hb⟩
  obtain ⟨a, c, rfl, hib⟩ := bytes_own hown (numBytes_bd _ _)
  have HAP : Hid (Apart S a) := by
    rintro b' o s rfl hS
    have h1 := HLT.out b' hS
    have h2 := HB.out.size
    rcases hown.2 with ⟨h, _⟩ | ⟨g, cap, cur, h, hg, _⟩
    · cases h
    · injection h with h
      injection h with h
      injection h with h
      omega
  have HB2 : Hid (Below w.heap.size w w2) := below_then HB.out hb HB.out.size
  have HIB := Lib.hid hib
  clear hb hown hib
  go_wp2_with fail
  refine (ram_write_ok (H.out.below HB2.out) x HX.out.1 HX.out.2 a m c HA.out _ HIB.out HAP.out).mono ?_
  rintro e w3 ⟨rfl, hh⟩
  rw [putTo_word] at hh
  have HF := Lib.hid (hh.from_below HB2.out)
  clear hh
  go_wp2_with fail
  go_ret
  exact ⟨rfl, HF.out⟩
end Go.Proofs.YtgadnacgilbanaaGreat
end
section
set_option linter.unusedVariables false
set_option linter.unusedSimpArgs false
namespace Go.Proofs.YtgadnacgilbanaaGreat
open Go.RowKit
set_option maxRecDepth 100000 in
set_option maxHeartbeats 1000000 in
theorem ram_fork_nil (w : World) : Calls Tryz.prog 24 #[.pointer none] w fun e w' => e = .returned (.pointer none) ∧ w = w' := by
  go_enter Tryz.func24, Tryz.ntmps24
  go_wp2_with fail
  go_ret
  exact ⟨rfl, rfl⟩
end Go.Proofs.YtgadnacgilbanaaGreat
end
section
set_option linter.unusedVariables false
set_option linter.unusedSimpArgs false
namespace Go.Proofs.YtgadnacgilbanaaGreat
open Go.RowKit
/-- no bytes, and that error -/
def ErrIs (w : World) (k : Int) (e : Ending) (w' : World) : Prop := e = .returned (.tuple #[.slice none 0 0, .int .i64 k]) ∧ w = w'
set_option maxRecDepth 100000 in
set_option maxHeartbeats 1000000 in
theorem rom_read_neg (off n : Int) (h : n < 0) (w : World) : Calls Tryz.prog 80 #[.int .u64 off, .int .i64 n] w (ErrIs w 1) := by
  go_enter Tryz.func80, Tryz.ntmps80
  go_wp2
  go_ret2
  exact ⟨rfl, rfl⟩
set_option maxRecDepth 100000 in
set_option maxHeartbeats 1000000 in
theorem rom_read_bus (off n : Int) (h0 : 0 ≤ n) (h2 : n ≤ 9223372036854775807) (o0 : 0 ≤ off) (o1 : off ≤ 18446744073709551615) (h : 4096 < off ∨ 4096 - off < n) (w : World) :
    Calls Tryz.prog 80 #[.int .u64 off, .int .i64 n] w (ErrIs w 6) := by
  by_cases hc : 4096 < off
  · clear h
    go_enter Tryz.func80, Tryz.ntmps80
    go_wp2
    go_ret2
    exact ⟨rfl, rfl⟩
  · have h' : 4096 - off < n := by omega
    have hc : off ≤ 4096 := by omega
    clear h
    go_enter Tryz.func80, Tryz.ntmps80
    go_wp2
    go_ret2
    exact ⟨rfl, rfl⟩
end Go.Proofs.YtgadnacgilbanaaGreat
end
section
set_option linter.unusedVariables false
set_option linter.unusedSimpArgs false
namespace Go.Proofs.YtgadnacgilbanaaGreat
open Go.RowKit

/-- what api.Devices holds -/
structure Dev where
  msip : Bool
  mtime : Nat
  cmp : Nat
  pr : Nat → Nat
  pend : Nat
  cla : Nat
  en : Nat → Nat
  th : Nat → Nat
  lines : Nat
  rxa : Option Addr
  rxl : Nat
  rxc : Nat
  txa : Option Addr
  txl : Nat
  txc : Nat
  uen : Nat
  lost : Bool
def Dev.cells (d : Dev) : Array Value := #[.bool d.msip, .int .u64 d.mtime, .int .u64 d.cmp, .int .u32 (d.pr 0), .int .u32 (d.pr 1), .int .u32 (d.pr 2), .int .u32 (d.pr 3), .int .u32 (d.pr 4),
  .int .u32 (d.pr 5), .int .u32 (d.pr 6), .int .u32 (d.pr 7), .int .u32 d.pend, .int .u32 d.cla, .int .u32 (d.en 0), .int .u32 (d.en 1), .int .u32 (d.th 0), .int .u32 (d.th 1), .int .u32 d.lines,
  .slice d.rxa d.rxl d.rxc, .slice d.txa d.txl d.txc, .int .u32 d.uen, .bool d.lost]
/-- every number fits its kind -/
structure Dev.Ok (d : Dev) : Prop where
  pr : ∀ i, i < 8 → d.pr i < 2 ^ 32
  pend : d.pend < 2 ^ 32
  cla : d.cla < 2 ^ 32
  en : ∀ i, i < 2 → d.en i < 2 ^ 32
  th : ∀ i, i < 2 → d.th i < 2 ^ 32
theorem Dev.cell_pr (d : Dev) : ∀ (i : Nat), i < 8 → d.cells[3 + i]? = some (.int .u32 (d.pr i))
  | 0, _ => rfl | 1, _ => rfl | 2, _ => rfl | 3, _ => rfl | 4, _ => rfl | 5, _ => rfl | 6, _ => rfl | 7, _ => rfl
  | n + 8, h => absurd h (by omega)
theorem Dev.cell_en (d : Dev) : ∀ (i : Nat), i < 2 → d.cells[13 + i]? = some (.int .u32 (d.en i))
  | 0, _ => rfl | 1, _ => rfl
  | n + 2, h => absurd h (by omega)
theorem Dev.cell_th (d : Dev) : ∀ (i : Nat), i < 2 → d.cells[15 + i]? = some (.int .u32 (d.th i))
  | 0, _ => rfl | 1, _ => rfl
  | n + 2, h => absurd h (by omega)
def upd (f : Nat → Nat) (i v : Nat) : Nat → Nat := fun j => if j = i then v else f j
theorem Dev.set_pr (d : Dev) (v : Nat) : ∀ (i : Nat), i < 8 → d.cells.setIfInBounds (3 + i) (.int .u32 v) = ({ d with pr := upd d.pr i v } : Dev).cells
  | 0, _ => rfl | 1, _ => rfl | 2, _ => rfl | 3, _ => rfl | 4, _ => rfl | 5, _ => rfl | 6, _ => rfl | 7, _ => rfl
  | n + 8, h => absurd h (by omega)
theorem Dev.set_en (d : Dev) (v : Nat) : ∀ (i : Nat), i < 2 → d.cells.setIfInBounds (13 + i) (.int .u32 v) = ({ d with en := upd d.en i v } : Dev).cells
  | 0, _ => rfl | 1, _ => rfl
  | n + 2, h => absurd h (by omega)
theorem Dev.set_th (d : Dev) (v : Nat) : ∀ (i : Nat), i < 2 → d.cells.setIfInBounds (15 + i) (.int .u32 v) = ({ d with th := upd d.th i v } : Dev).cells
  | 0, _ => rfl | 1, _ => rfl
  | n + 2, h => absurd h (by omega)
theorem Dev.set_pend (d : Dev) (v : Nat) : d.cells.setIfInBounds 11 (.int .u32 v) = ({ d with pend := v } : Dev).cells := rfl
theorem Dev.set_cla (d : Dev) (v : Nat) : d.cells.setIfInBounds 12 (.int .u32 v) = ({ d with cla := v } : Dev).cells := rfl

/-- the best source among 1 .. n of a context -/
def bestTo (x : Nat) (pr : Nat → Nat) : Nat → Nat
  | 0 => 0
  | n + 1 => if x.testBit (n + 1) ∧ pr (bestTo x pr n) < pr (n + 1) then n + 1 else bestTo x pr n
theorem bestTo_le (x : Nat) (pr : Nat → Nat) : ∀ n, bestTo x pr n ≤ n
  | 0 => Nat.le_refl _
  | n + 1 => by unfold bestTo; split; omega; have := bestTo_le x pr n; omega
def Dev.best (d : Dev) (c : Nat) : Nat := bestTo (d.pend &&& d.en c) d.pr 7

/-! bits -/
theorem and32 (a b : Nat) (ha : a < 2 ^ 32) (hb : b < 2 ^ 32) : bits .and .u32 (a : Int) (b : Int) = ((a &&& b : Nat) : Int) := u32_and_nat a b ha hb
theorem and_lt32 {a : Nat} (b : Nat) (ha : a < 2 ^ 32) : a &&& b < 2 ^ 32 := Nat.lt_of_le_of_lt Nat.and_le_left ha
theorem bit32 (x s : Nat) (hx : x < 2 ^ 32) : bits .and .u32 ((x / 2 ^ s : Nat) : Int) 1 = ((x.testBit s).toNat : Int) := by
  have h := u32_and_nat (x / 2 ^ s) 1 (Nat.lt_of_le_of_lt (Nat.div_le_self _ _) hx) (by omega)
  rw [show ((1 : Nat) : Int) = 1 from rfl] at h
  rw [h, Nat.testBit, Nat.shiftRight_eq_div_pow]
  simp only [Nat.and_one_is_mod]
  rcases Nat.mod_two_eq_zero_or_one (x / 2 ^ s) with e | e <;> simp [e, Nat.one_and_eq_mod_two]
theorem bit32i (x s : Nat) (hx : x < 2 ^ 32) : bits .and .u32 ((x : Int) / 2 ^ s) 1 = ((x.testBit s).toNat : Int) := by
  have h := bit32 x s hx
  rw [Int.natCast_ediv, Int.natCast_pow] at h
  exact h
theorem bit_ne (x s : Nat) (hx : x < 2 ^ 32) : (bits .and .u32 ((x : Int) / 2 ^ s) 1 != 0) = x.testBit s := by
  rw [bit32i x s hx]; cases x.testBit s <;> rfl
theorem bit_eq1 (x s : Nat) (hx : x < 2 ^ 32) : (bits .and .u32 ((x : Int) / 2 ^ s) 1 == 1) = x.testBit s := by
  rw [bit32i x s hx]; cases x.testBit s <;> rfl
def andNot32 (a b : Nat) : Nat := a &&& (4294967295 - b)
theorem andNot32_i (a b : Nat) (ha : a < 2 ^ 32) (hb : b < 2 ^ 32) : bits .andNot .u32 (a : Int) (b : Int) = (andNot32 a b : Int) := u32_andNot_nat a b ha hb
theorem or32 (a b : Nat) (ha : a < 2 ^ 32) (hb : b < 2 ^ 32) : bits .or .u32 (a : Int) (b : Int) = ((a ||| b : Nat) : Int) := u32_or_nat a b ha hb
theorem andNot32_lt {a : Nat} (b : Nat) (ha : a < 2 ^ 32) : andNot32 a b < 2 ^ 32 := and_lt32 _ ha
/-- the tick of levels l -/
def Dev.tick (d : Dev) (l : Nat) : Dev := { d with pend := d.pend ||| andNot32 (l &&& 254) d.cla }
theorem Dev.tick_ok (d : Dev) (l : Nat) (hd : d.Ok) (hl : l < 2 ^ 32) : (d.tick l).Ok :=
  ⟨hd.pr, Nat.or_lt_two_pow hd.pend (andNot32_lt _ (and_lt32 _ hl)), hd.cla, hd.en, hd.th⟩
/-- which register stands at an offset: its kind, its number -/
def placeOf (off : Int) : Int × Int :=
  if off = 4096 then (2, 0) else if off = 8192 then (3, 0) else if off = 8320 then (3, 1) else if off = 2097152 then (4, 0) else if off = 2101248 then (4, 1)
  else if off = 2097156 then (5, 0) else if off = 2101252 then (5, 1)
  else if off = 4 then (1, 1) else if off = 8 then (1, 2) else if off = 12 then (1, 3) else if off = 16 then (1, 4) else if off = 20 then (1, 5) else if off = 24 then (1, 6) else if off = 28 then (1, 7)
  else (0, 0)
def pow2 (s : Nat) : Nat := 2 ^ s
theorem pow2_lt {s : Nat} (h : s ≤ 7) : pow2 s < 2 ^ 32 := Nat.pow_lt_pow_right (by omega) (by omega)
theorem shl1_32 {s : Nat} (h : s ≤ 7) : (2 : Int) ^ s % 4294967296 = (pow2 s : Int) := by
  have h1 := pow2_lt h
  have h2 : ((2 : Int) ^ s) = ((pow2 s : Nat) : Int) := by unfold pow2; rw [Int.natCast_pow]; rfl
  rw [h2]
  omega
/-- source s is claimed -/
def Dev.claim (d : Dev) (s : Nat) : Dev := { d with pend := andNot32 d.pend (pow2 s), cla := d.cla ||| pow2 s }
theorem Dev.claim_ok (d : Dev) (s : Nat) (hd : d.Ok) (hs : s ≤ 7) : (d.claim s).Ok :=
  ⟨hd.pr, andNot32_lt _ hd.pend, Nat.or_lt_two_pow hd.cla (pow2_lt hs), hd.en, hd.th⟩
theorem Dev.best_le (d : Dev) (c : Nat) : d.best c ≤ 7 := bestTo_le _ _ _
end Go.Proofs.YtgadnacgilbanaaGreat
end
section
set_option linter.unusedVariables false
set_option linter.unusedSimpArgs false
namespace Go.Proofs.YtgadnacgilbanaaGreat
open Go.RowKit
def lo32 (v : Nat) : Nat := v &&& 4294967295
def and7 (v : Nat) : Nat := v &&& 7
def and254 (v : Nat) : Nat := v &&& 254
theorem lo32_lt (v : Nat) : lo32 v < 2 ^ 32 := Nat.lt_of_le_of_lt Nat.and_le_right (by omega)
theorem and7_lt (v : Nat) : and7 v < 8 := Nat.lt_of_le_of_lt Nat.and_le_right (by omega)
theorem and254_lt (v : Nat) : and254 v < 255 := Nat.lt_of_le_of_lt Nat.and_le_right (by omega)
theorem lo32_i (v : Nat) (h : v < 2 ^ 64) : bits .and .u64 (v : Int) 4294967295 = (lo32 v : Int) := u64_and_nat v 4294967295 h (by omega)
theorem and7_i (v : Nat) (h : v < 2 ^ 32) : bits .and .u64 (v : Int) 7 = (and7 v : Int) := u64_and_nat v 7 (by omega) (by omega)
theorem and254_i (v : Nat) (h : v < 2 ^ 32) : bits .and .u64 (v : Int) 254 = (and254 v : Int) := u64_and_nat v 254 (by omega) (by omega)
theorem mod32_i (v : Nat) (h : v < 2 ^ 32) : (v : Int) % 4294967296 = (v : Int) := by omega
/-- the completion of source s in context k -/
def Dev.complete (d : Dev) (k s : Nat) : Dev := { d with cla := andNot32 d.cla (d.en k &&& pow2 s) }
theorem upd_lt {f : Nat → Nat} {n i v B : Nat} (hf : ∀ j, j < n → f j < B) (hv : v < B) : ∀ j, j < n → upd f i v j < B := by
  intro j hj; unfold upd; split
  · exact hv
  · exact hf j hj
theorem place_cases (off : Int) : placeOf off = (0, 0) ∨ (∃ k : Nat, 1 ≤ k ∧ k < 8 ∧ placeOf off = (1, (k : Int))) ∨ placeOf off = (2, 0) ∨ (∃ k : Nat, k < 2 ∧ placeOf off = (3, (k : Int))) ∨ (∃ k : Nat, k < 2 ∧ placeOf off = (4, (k : Int))) ∨ (∃ k : Nat, k < 2 ∧ placeOf off = (5, (k : Int))) := by
  by_cases h4096 : off = 4096
  · subst h4096; exact .inr (.inr (.inl rfl))
  by_cases h8192 : off = 8192
  · subst h8192; exact .inr (.inr (.inr (.inl ⟨0, by omega, rfl⟩)))
  by_cases h8320 : off = 8320
  · subst h8320; exact .inr (.inr (.inr (.inl ⟨1, by omega, rfl⟩)))
  by_cases h2097152 : off = 2097152
  · subst h2097152; exact .inr (.inr (.inr (.inr (.inl ⟨0, by omega, rfl⟩))))
  by_cases h2101248 : off = 2101248
  · subst h2101248; exact .inr (.inr (.inr (.inr (.inl ⟨1, by omega, rfl⟩))))
  by_cases h2097156 : off = 2097156
  · subst h2097156; exact .inr (.inr (.inr (.inr (.inr ⟨0, by omega, rfl⟩))))
  by_cases h2101252 : off = 2101252
  · subst h2101252; exact .inr (.inr (.inr (.inr (.inr ⟨1, by omega, rfl⟩))))
  by_cases h4 : off = 4
  · subst h4; exact .inr (.inl ⟨1, by omega, by omega, rfl⟩)
  by_cases h8 : off = 8
  · subst h8; exact .inr (.inl ⟨2, by omega, by omega, rfl⟩)
  by_cases h12 : off = 12
  · subst h12; exact .inr (.inl ⟨3, by omega, by omega, rfl⟩)
  by_cases h16 : off = 16
  · subst h16; exact .inr (.inl ⟨4, by omega, by omega, rfl⟩)
  by_cases h20 : off = 20
  · subst h20; exact .inr (.inl ⟨5, by omega, by omega, rfl⟩)
  by_cases h24 : off = 24
  · subst h24; exact .inr (.inl ⟨6, by omega, by omega, rfl⟩)
  by_cases h28 : off = 28
  · subst h28; exact .inr (.inl ⟨7, by omega, by omega, rfl⟩)
  exact .inl (by unfold placeOf; rw [if_neg h4096, if_neg h8192, if_neg h8320, if_neg h2097152, if_neg h2101248, if_neg h2097156, if_neg h2101252, if_neg h4, if_neg h8, if_neg h12, if_neg h16, if_neg h20, if_neg h24, if_neg h28])
/-- a register read: the number, the error, what is then -/
def Dev.read (d : Dev) (off size : Int) : Nat × Int × Dev :=
  if size = 4 then
    if (placeOf off).1 = 1 then (d.pr (placeOf off).2.toNat, 0, d)
    else if (placeOf off).1 = 2 then (d.pend, 0, d)
    else if (placeOf off).1 = 3 then (d.en (placeOf off).2.toNat, 0, d)
    else if (placeOf off).1 = 4 then (d.th (placeOf off).2.toNat, 0, d)
    else if (placeOf off).1 = 5 then (d.best (placeOf off).2.toNat, 0, if d.best (placeOf off).2.toNat = 0 then d else d.claim (d.best (placeOf off).2.toNat))
    else (0, 6, d)
  else (0, 6, d)
/-- a register written: the error, what is then -/
def Dev.write (d : Dev) (off size : Int) (v : Nat) : Int × Dev :=
  if size = 4 then
    if (placeOf off).1 = 1 then (0, { d with pr := upd d.pr (placeOf off).2.toNat (and7 (lo32 v)) })
    else if (placeOf off).1 = 3 then (0, { d with en := upd d.en (placeOf off).2.toNat (and254 (lo32 v)) })
    else if (placeOf off).1 = 4 then (0, { d with th := upd d.th (placeOf off).2.toNat (and7 (lo32 v)) })
    else if (placeOf off).1 = 5 then (0, if 1 ≤ lo32 v ∧ lo32 v ≤ 7 then d.complete (placeOf off).2.toNat (lo32 v) else d)
    else (6, d)
  else (6, d)
theorem Dev.read_ok (d : Dev) (hd : d.Ok) (off size : Int) : (d.read off size).2.2.Ok ∧ (d.read off size).1 < 2 ^ 32 := by
  unfold Dev.read
  by_cases hs : size = 4
  · rw [if_pos hs]
    rcases place_cases off with h | ⟨k, h1, h2, h⟩ | h | ⟨k, h2, h⟩ | ⟨k, h2, h⟩ | ⟨k, h2, h⟩ <;> simp only [h, Int.toNat_natCast, if_pos, if_neg, reduceIte, Int.reduceEq]
    · exact ⟨hd, by omega⟩
    · exact ⟨hd, hd.pr k h2⟩
    · exact ⟨hd, hd.pend⟩
    · exact ⟨hd, hd.en k h2⟩
    · exact ⟨hd, hd.th k h2⟩
    · have := d.best_le k
      refine ⟨?_, by omega⟩
      split
      · exact hd
      · exact d.claim_ok _ hd this
  · rw [if_neg hs]; exact ⟨hd, by omega⟩
theorem Dev.write_ok (d : Dev) (hd : d.Ok) (off size : Int) (v : Nat) : (d.write off size v).2.Ok := by
  unfold Dev.write
  by_cases hs : size = 4
  · rw [if_pos hs]
    have a7 := and7_lt (lo32 v)
    have a254 := and254_lt (lo32 v)
    rcases place_cases off with h | ⟨k, h1, h2, h⟩ | h | ⟨k, h2, h⟩ | ⟨k, h2, h⟩ | ⟨k, h2, h⟩ <;> simp only [h, Int.toNat_natCast, if_pos, if_neg, reduceIte, Int.reduceEq]
    · exact hd
    · exact ⟨upd_lt hd.pr (by omega), hd.pend, hd.cla, hd.en, hd.th⟩
    · exact hd
    · exact ⟨hd.pr, hd.pend, hd.cla, upd_lt hd.en (by omega), hd.th⟩
    · exact ⟨hd.pr, hd.pend, hd.cla, hd.en, upd_lt hd.th (by omega)⟩
    · split
      · exact ⟨hd.pr, hd.pend, andNot32_lt _ hd.cla, hd.en, hd.th⟩
      · exact hd
  · rw [if_neg hs]; exact hd
end Go.Proofs.YtgadnacgilbanaaGreat
end
section
set_option linter.unusedVariables false
set_option linter.unusedSimpArgs false
namespace Go.Proofs.YtgadnacgilbanaaGreat
open Go.RowKit

/-- the cells of block g -/
def rowOf (w : World) (g : Nat) : Array Value := match w.heap[g]? with | some (.cells c _ _) => c | _ => #[]
/-- block g has n cells, none of them frozen -/
def rowIs (w : World) (g n : Nat) : Bool := match w.heap[g]? with | some (.cells c _ (lo, hi)) => c.size == n && lo == 0 && hi == 0 | _ => false
def loadS (t : TypeId) (x : Value) : Sem Value := Instr.loadAt t x
def storeS (t : TypeId) (x v : Value) : Sem Unit := Instr.storeAt t x v
theorem rowIs_of {w : World} {g : Nat} {C : Array Value} {t : TypeId} (h : w.heap[g]? = some (.cells C t (0, 0))) : rowIs w g C.size = true := by simp [rowIs, h]
theorem rowOf_of {w : World} {g : Nat} {C : Array Value} {t : TypeId} {fz : Nat × Nat} (h : w.heap[g]? = some (.cells C t fz)) : rowOf w g = C := by simp [rowOf, h]
theorem rowIs_elim {w : World} {g n : Nat} (h : rowIs w g n = true) : ∃ t, w.heap[g]? = some (.cells (rowOf w g) t (0, 0)) ∧ (rowOf w g).size = n := by
  unfold rowIs at h
  split at h
  · rename_i c t lo hi hh
    simp at h
    obtain ⟨⟨h1, h2⟩, h3⟩ := h
    subst h2 h3
    exact ⟨t, by rw [rowOf_of hh]; exact hh, by rw [rowOf_of hh]; exact h1⟩
  · cases h
theorem run_loadS (P : Program) (ty : TypeId) (d : TypeDesc) (n : Nat) (hu : P.underlying ty = some d) (hd : (match d with | .struct _ | .array _ _ => true | _ => false) = true) (hi : (P.info? ty).map (·.size) = some n)
    (w : World) (g : Nat) (h : rowIs w g n = true) : (loadS ty (.pointer (some ⟨g, 0, none⟩))).run P w = .ok (.agg (rowOf w g)) w := by
  obtain ⟨t, hh, hs⟩ := rowIs_elim h
  have := run_loadVar_row (P := P) w g t ty (rowOf w g) (0, 0) d hh hu hd (by rw [hs]; exact hi)
  simp only [loadS, Instr.loadAt, Instr.sureAddr, Sem.run_bind, Sem.run_pure, Result.andThen_ok, this]
theorem run_storeS (P : Program) (ty : TypeId) (n : Nat) (hi : (P.info? ty).map (·.size) = some n)
    (w : World) (g : Nat) (C : Array Value) (h : rowIs w g n = true) (hC : C.size = n) (h1 : C.all (·.oneCell') = true) : (storeS ty (.pointer (some ⟨g, 0, none⟩)) (.agg C)).run P w = .ok () (w.setRow g C) := by
  obtain ⟨t, hh, hs⟩ := rowIs_elim h
  have := run_storeVar_row (P := P) w g t ty (rowOf w g) C hh (by rw [hC]; exact hi) (by rw [hC]; exact hs) h1
  simp only [storeS, Instr.storeAt, Instr.sureAddr, Sem.run_bind, Sem.run_pure, Result.andThen_ok, this]

/-! what a world's steps do to rows -/
theorem row_alloc_new (w : World) (C : Array Value) (t : TypeId) (fz : Nat × Nat) : rowOf (w.alloc (.cells C t fz)) w.heap.size = C := rowOf_of (blk_alloc w _)
theorem row_alloc_old (w : World) (o : Obj) (g : Nat) (h : g < w.heap.size) : rowOf (w.alloc o) g = rowOf w g := by unfold rowOf; rw [blk_alloc_old w o g h]
theorem row_drew (w : World) (g : Nat) : rowOf w.drew g = rowOf w g := rfl
theorem row_drewN (w : World) (n g : Nat) : rowOf (w.drewN n) g = rowOf w g := rfl
theorem is_alloc_new (w : World) (C : Array Value) (t : TypeId) (n : Nat) : rowIs (w.alloc (.cells C t)) w.heap.size n = (C.size == n) := by unfold rowIs; rw [blk_alloc]; simp
theorem is_alloc_old (w : World) (o : Obj) (g n : Nat) (h : g < w.heap.size) : rowIs (w.alloc o) g n = rowIs w g n := by unfold rowIs; rw [blk_alloc_old w o g h]
theorem is_drew (w : World) (g n : Nat) : rowIs w.drew g n = rowIs w g n := rfl
theorem is_drewN (w : World) (k g n : Nat) : rowIs (w.drewN k) g n = rowIs w g n := rfl
theorem row_setCell (w : World) (b o : Nat) (v : Value) (g : Nat) : rowOf (w.setCell ⟨b, o, none⟩ v) g = if b = g then (rowOf w g).setIfInBounds o v else rowOf w g := by
  by_cases h : b = g
  · subst h
    rw [if_pos rfl]
    unfold rowOf
    simp only [World.setCell, Array.getElem?_modify, if_true]
    cases hh : w.heap[b]? with
    | none => simp
    | some ob => cases ob <;> simp
  · rw [if_neg h]
    unfold rowOf
    rw [blk_set_ne _ _ h]
theorem is_setCell (w : World) (a : Addr) (v : Value) (g n : Nat) : rowIs (w.setCell a v) g n = rowIs w g n := by
  by_cases h : a.block = g
  · subst h
    unfold rowIs
    simp only [World.setCell, Array.getElem?_modify, if_true]
    cases hh : w.heap[a.block]? with
    | none => simp
    | some ob => cases ob <;> simp; split <;> simp
  · unfold rowIs
    rw [blk_set_ne _ _ h]
theorem row_setRow_same (w : World) (g n : Nat) (C : Array Value) (h : rowIs w g n = true) : rowOf (w.setRow g C) g = C := by
  obtain ⟨t, hh, _⟩ := rowIs_elim h
  exact rowOf_of (setRow_heap w g _ C t (0, 0) hh)
theorem row_setRow_other (w : World) (g k : Nat) (C : Array Value) (h : k ≠ g) : rowOf (w.setRow g C) k = rowOf w k := by unfold rowOf; rw [setRow_other w g k C h]
theorem is_setRow_other (w : World) (g k n : Nat) (C : Array Value) (h : k ≠ g) : rowIs (w.setRow g C) k n = rowIs w k n := by unfold rowIs; rw [setRow_other w g k C h]
theorem is_setRow_same (w : World) (g m n : Nat) (C : Array Value) (h : rowIs w g m = true) : rowIs (w.setRow g C) g n = (C.size == n) := by
  obtain ⟨t, hh, _⟩ := rowIs_elim h
  simp [rowIs, setRow_heap w g _ C t (0, 0) hh]
/-- a row stored into the block laid last: in that block's own literal -/
theorem setRow_alloc_new (w : World) (C D : Array Value) (t : TypeId) (fz : Nat × Nat) : (w.alloc (.cells C t fz)).setRow w.heap.size D = w.alloc (.cells D t fz) := by
  simp only [World.setRow, World.alloc]
  congr 1
  apply Array.ext_getElem?
  intro i
  rw [Array.getElem?_modify, Array.getElem?_push, Array.getElem?_push]
  by_cases h : w.heap.size = i
  · subst h; simp
  · rw [if_neg h, if_neg (by omega), if_neg (by omega)]
/-- the cells of an object -/
def objRow : Obj → Array Value | .cells c _ _ => c | _ => #[]
def objIs (n : Nat) : Obj → Bool | .cells c _ (lo, hi) => c.size == n && lo == 0 && hi == 0 | _ => false
theorem objRow_cells (C : Array Value) (t : TypeId) (fz : Nat × Nat) : objRow (.cells C t fz) = C := rfl
theorem objIs_cells (n : Nat) (C : Array Value) (t : TypeId) : objIs n (.cells C t) = (C.size == n) := by simp [objIs]
theorem row_alloc (w : World) (o : Obj) (g : Nat) : rowOf (w.alloc o) g = if g = w.heap.size then objRow o else rowOf w g := by
  by_cases h : g = w.heap.size
  · subst h; rw [if_pos rfl]; unfold rowOf; rw [blk_alloc]; cases o <;> rfl
  · rw [if_neg h]
    unfold rowOf
    have : (w.alloc o).heap[g]? = w.heap[g]? := by
      show (w.heap.push o)[g]? = _
      rw [Array.getElem?_push, if_neg h]
    rw [this]
theorem is_alloc (w : World) (o : Obj) (g n : Nat) : rowIs (w.alloc o) g n = if g = w.heap.size then objIs n o else rowIs w g n := by
  by_cases h : g = w.heap.size
  · subst h; rw [if_pos rfl]; unfold rowIs; rw [blk_alloc]; cases o <;> rfl
  · rw [if_neg h]
    unfold rowIs
    have : (w.alloc o).heap[g]? = w.heap[g]? := by
      show (w.heap.push o)[g]? = _
      rw [Array.getElem?_push, if_neg h]
    rw [this]
/-- each value is of one cell -/
def oneAll (C : Array Value) : Bool := C.all (·.oneCell')
/-- a row that fills n cells -/
def stOk (n : Nat) (C : Array Value) : Bool := C.size == n && C.all (·.oneCell')
theorem run_storeS' (P : Program) (ty : TypeId) (n : Nat) (hi : (P.info? ty).map (·.size) = some n)
    (w : World) (g : Nat) (C : Array Value) (h : rowIs w g n = true) (hC : stOk n C = true) : (storeS ty (.pointer (some ⟨g, 0, none⟩)) (.agg C)).run P w = .ok () (w.setRow g C) := by
  simp only [stOk, Bool.and_eq_true, beq_iff_eq] at hC
  exact run_storeS P ty n hi w g C h hC.1 hC.2
theorem run_loadV (P : Program) (ty : TypeId) (d : TypeDesc) (n : Nat) (hu : P.underlying ty = some d) (hd : (match d with | .struct _ | .array _ _ => true | _ => false) = true) (hi : (P.info? ty).map (·.size) = some n)
    (w : World) (g : Nat) (C : Array Value) (h : rowIs w g n = true) (hC : rowOf w g = C) : (loadVar ty ⟨g, 0, none⟩).run P w = .ok (.agg C) w := by
  obtain ⟨t, hh, hs⟩ := rowIs_elim h
  have := run_loadVar_row (P := P) w g t ty (rowOf w g) (0, 0) d hh hu hd (by rw [hs]; exact hi)
  rw [this, hC]
section
variable {fn : Func} {a p b : Tmp} {ty : TypeId} (tmps : Array Value) (P : Program) (w : World) (g : Nat) (C : Array Value)
  (hp : tmps.getD p undef = .pointer (some ⟨g, 0, none⟩)) (hl : (loadVar ty ⟨g, 0, none⟩).run P w = .ok (.agg C) w)
include hp hl
theorem res_c (h : fn.results = #[.cell p ty]) : (results fn tmps).run P w = .ok (.agg C) w := by
  have hp' : tmps[p]?.getD undef = .pointer (some ⟨g, 0, none⟩) := by simpa using hp
  simp [results, h, hp', asAddr, hl]
theorem res_ct (h : fn.results = #[.cell p ty, .tmp b]) : (results fn tmps).run P w = .ok (.tuple #[.agg C, tmps.getD b undef]) w := by
  have hp' : tmps[p]?.getD undef = .pointer (some ⟨g, 0, none⟩) := by simpa using hp
  simp [results, h, hp', asAddr, hl]
theorem res_tct (h : fn.results = #[.tmp a, .cell p ty, .tmp b]) : (results fn tmps).run P w = .ok (.tuple #[tmps.getD a undef, .agg C, tmps.getD b undef]) w := by
  have hp' : tmps[p]?.getD undef = .pointer (some ⟨g, 0, none⟩) := by simpa using hp
  simp [results, h, hp', asAddr, hl]
end
/-! quiet calls behind draws -/
theorem q_same {P : Program} {f : FuncId} {args : Array Value} {w : World} {a n : Nat} {v : Value} (h : Calls P f args (w.drewN (a + n)) fun e w' => e = .returned v ∧ w' = w.drewN (a + n)) :
    Calls P f args (w.drewN (a + n)) fun e w' => e = .returned v ∧ ∃ m, w' = w.drewN (a + m) := h.mono fun _ _ hh => ⟨hh.1, n, hh.2⟩
theorem q_draws {P : Program} {f : FuncId} {args : Array Value} {w : World} {a n : Nat} {v : Value} (h : Calls P f args (w.drewN (a + n)) fun e w' => e = .returned v ∧ ∃ m, w' = (w.drewN (a + n)).drewN m) :
    Calls P f args (w.drewN (a + n)) fun e w' => e = .returned v ∧ ∃ m, w' = w.drewN (a + m) := h.mono fun _ _ hh => by
  obtain ⟨h1, m, h2⟩ := hh
  exact ⟨h1, n + m, by rw [h2, World.drewN_drewN, Nat.add_assoc]⟩
end Go.Proofs.YtgadnacgilbanaaGreat
end
section
set_option linter.unusedVariables false
set_option linter.unusedSimpArgs false
namespace Go.Proofs.YtgadnacgilbanaaGreat
open Go.RowKit

end Go.Proofs.YtgadnacgilbanaaGreat
end
section
set_option linter.unusedVariables false
set_option linter.unusedSimpArgs false
namespace Go.Proofs.YtgadnacgilbanaaGreat
open Go.RowKit
theorem wf_u8' {a : Int} (h : (Lit.int .u8 a).wf = true) : 0 ≤ a ∧ a ≤ 255 := by simpa [Lit.wf, IntKind.min, IntKind.max, IntKind.signed, IntKind.bits] using h
theorem wf_u64' {a : Int} (h : (Lit.int .u64 a).wf = true) : 0 ≤ a ∧ a ≤ 18446744073709551615 := by simpa [Lit.wf, IntKind.min, IntKind.max, IntKind.signed, IntKind.bits] using h
theorem wf_i64' {a : Int} (h : (Lit.int .i64 a).wf = true) : -9223372036854775808 ≤ a ∧ a ≤ 9223372036854775807 := by simpa [Lit.wf, IntKind.min, IntKind.max, IntKind.signed, IntKind.bits] using h
/-- the first n numbers of z -/
def listOf (z : Nat → Int) (n : Nat) : List Int := (List.range n).map z
theorem listOf_len (z : Nat → Int) (n : Nat) : (listOf z n).length = n := by simp [listOf]
theorem listOf_getD (z : Nat → Int) (n i : Nat) (h : i < n) : (listOf z n).getD i 0 = z i := by simp [listOf, List.getD, h]
theorem argB {w : World} {a : Option Addr} {len cap : Nat} {z : Nat → Int} (h : ArgRow w a len cap (fun i => .int .u8 (z i))) (hz : ∀ i, (Lit.int .u8 (z i)).wf = true) {n : Nat} (hn : n ≤ cap) : IsB w a n (listOf z n) := by
  refine ⟨listOf_len _ _, fun x hx => ?_, ?_⟩
  · simp only [listOf, List.mem_map] at hx
    obtain ⟨i, _, rfl⟩ := hx
    exact wf_u8' (hz i)
  · rcases h.form with h0 | ⟨b, o, rfl, hb⟩
    · exact .inl ⟨h0, by have := h.nil h0; omega⟩
    · right
      refine ⟨b, o, rfl, fun i hi => ?_⟩
      obtain ⟨b', o', h1, _, h3⟩ := h.row (by omega)
      cases h1
      rw [h3 i (by omega), listOf_getD _ _ _ hi]
/-- an argument's cells lie in none of the blocks that are made since -/
theorem ArgRow.apart {w : World} {a : Option Addr} {len cap : Nat} {V : Nat → Value} (h : ArgRow w a len cap V) {S : Nat → Prop} (hS : ∀ g, S g → w.heap.size ≤ g) : Apart S a := by
  rintro b o s rfl hb
  rcases h.form with h0 | ⟨b', o', h1, h2⟩
  · cases h0
  · cases h1
    have := hS b hb
    omega
end Go.Proofs.YtgadnacgilbanaaGreat
end
section
set_option linter.unusedVariables false
set_option linter.unusedSimpArgs false
namespace Go.Proofs.YtgadnacgilbanaaGreat
open Go.RowKit
/-- a memory with an image, in new blocks -/
def Loaded (w : World) (n : Nat) (l : List Int) (m : Nat) (e : Ending) (w' : World) : Prop :=
  ∃ b S, e = .returned (.tuple #[.pointer (some ⟨b, 0, none⟩), .int .i64 0]) ∧ RamAt w' b n (putTo (fun _ => 0) 0 (fun i => (l.getD i 0).toNat) (fun _ => true) m) S ∧ (∀ g, S g → w.heap.size ≤ g) ∧ w.heap.size ≤ b ∧ Below w.heap.size w w'
/-- no memory, and that error -/
def NoLoad (w : World) (k : Int) (e : Ending) (w' : World) : Prop := e = .returned (.tuple #[.pointer none, .int .i64 k]) ∧ Below w.heap.size w w'
set_option maxRecDepth 100000 in
set_option maxHeartbeats 2000000 in
theorem rom_load_arg (n : Int) (h : n < 4 ∨ 256 < n) (a : Option Addr) (m c : Nat) (w : World) : Calls Tryz.prog 13 #[.int .i64 n, .slice a m c] w (NoLoad w 1) := by
  have H := Lib.hid (ram_new_arg n h w)
  have HB := Lib.hid (Below.refl w.heap.size w)
  clear h
  go_enter Tryz.func13, Tryz.ntmps13
  go_wp2_with fail
  refine H.out.mono ?_
  rintro e w1 ⟨rfl, rfl⟩
  go_wp2_with fail
  go_ret2
  exact ⟨rfl, HB.out⟩
set_option maxRecDepth 100000 in
set_option maxHeartbeats 2000000 in
theorem rom_load_full (n : Nat) (h4 : 4 ≤ n) (h256 : n ≤ 256) (a : Option Addr) (m c : Nat) (hm : (n : Int) * 4096 < m) (hm2 : (m : Int) ≤ 9223372036854775807) (w : World) : Calls Tryz.prog 13 #[.int .i64 n, .slice a m c] w (NoLoad w 3) := by
  have h1 : (4 : Int) ≤ n := by omega
  have h2 : (n : Int) ≤ 256 := by omega
  have hN := Lib.hid (And.intro h4 h256)
  clear h4 h256
  go_enter Tryz.func13, Tryz.ntmps13
  go_wp2_with fail
  refine (ram_new n hN.out.1 hN.out.2 w).mono ?_
  rintro e w1 ⟨b, S, rfl, hat, hS, hb, hw⟩
  have HW := Lib.hid hw
  clear hat hw hS hb
  go_wp2_with fail
  go_ret2
  exact ⟨rfl, HW.out⟩
set_option maxRecDepth 100000 in
set_option maxHeartbeats 2000000 in
theorem rom_load_ok (n : Nat) (h4 : 4 ≤ n) (h256 : n ≤ 256) (a : Option Addr) (m c : Nat) (hm : (m : Int) ≤ (n : Int) * 4096) (w : World) (l : List Int) (hl : IsB w a m l) (hp : ∀ S : Nat → Prop, (∀ g, S g → w.heap.size ≤ g) → Apart S a) :
    Calls Tryz.prog 13 #[.int .i64 n, .slice a m c] w (Loaded w n l m) := by
  have h1 : (4 : Int) ≤ n := by omega
  have h2 : (n : Int) ≤ 256 := by omega
  have hN := Lib.hid (And.intro h4 h256)
  have HL := Lib.hid hl
  have HP := Lib.hid hp
  have HM := Lib.hid (show ramAll n 2147483648 m = true by
    simp only [ramAll, isRam, Bool.or_eq_true, Bool.and_eq_true, decide_eq_true_eq]
    omega)
  clear h4 h256 hl hp
  go_enter Tryz.func13, Tryz.ntmps13
  go_wp2_with fail
  refine (ram_new n hN.out.1 hN.out.2 w).mono ?_
  rintro e w1 ⟨b, S, rfl, hat, hS, hb, hw⟩
  have HW := Lib.hid hw
  have H := Lib.hid hat
  have HS := Lib.hid hS
  have HBB := Lib.hid hb
  have HL1 := Lib.hid (isB_turned HL.out (Turned.of_below HW.out (fun _ => False)) (fun _ _ _ _ e => e))
  clear hat hw hS hb
  go_wp2_with fail
  refine (ram_write_ok H.out 2147483648 (by omega) (by omega) a m c HM.out l HL1.out (HP.out S HS.out)).mono ?_
  rintro e w2 ⟨rfl, hto⟩
  obtain ⟨S2, hat2, ht2, hs2⟩ := hto
  have HS2 : Hid (∀ g, S2 g → w.heap.size ≤ g) := fun g hg => by
    rcases hs2 g hg with h | h
    · exact HS.out g h
    · have := HW.out.size; omega
  have HW2 : Hid (Below w.heap.size w w2) := HW.out.trans (ht2.below HW.out.size HS.out)
  have H2 := Lib.hid hat2
  clear ht2 hs2 hat2 H HS HW
  go_wp2_with fail
  go_ret2
  exact ⟨b, S2, rfl, H2.out, HS2.out, HBB.out, HW2.out⟩
theorem drewN_below (w : World) (k : Nat) : Below w.heap.size w (w.drewN k) := ⟨rfl, rfl, rfl, Nat.le_refl _, fun _ _ => rfl⟩
end Go.Proofs.YtgadnacgilbanaaGreat
end
