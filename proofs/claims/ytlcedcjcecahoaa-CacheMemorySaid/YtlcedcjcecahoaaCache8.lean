/- Contracts of the cache's statements' own helpers: line. No condition. -/
import Derived.Test.YtlcedcjcecahoaaCache7
import Derived.StillTailTactics
import Derived.BigRegion
import Derived.Deep.RegionWith
import Derived.Deep.RegionHeld3
import Derived.Deep.RegionLaw
import Derived.Deep.QuietTactic
import Derived.BigQuiet
import Derived.Deep.LoopGhost
import Derived.Deep.DeepCutAuto
import Derived.Deep.DeepFit
import Derived.Deep.DeepMust
import Derived.Handy
set_option linter.unusedVariables false
set_option linter.unusedSimpArgs false
namespace Go.Proofs.Ytlcedcjcecahoaa
open Go.RowKit
set_option maxRecDepth 100000
/-- the bytes of a line that is made of a number -/
def lineD (v : Int) (i : Nat) : Int := (v / 2 ^ (8 * (i % 8)) + i) % 256
theorem lineD_bd (v : Int) (i : Nat) : 0 ≤ lineD v i ∧ lineD v i ≤ 255 := by unfold lineD; omega
set_option maxHeartbeats 4000000 in
theorem law_line (v : Int) (v0 : 0 ≤ v) (v1 : v < 18446744073709551616) (w : World) :
    Calls Try.prog 14 #[.int .u64 v, .bool false] w fun e w' => e = .returned (.slice (some ⟨w.heap.size, 0, none⟩) 64 64) ∧ w'.rowIs w.heap.size 5 64 (fun i => .int .u8 (lineD v i)) ∧ Below w.heap.size w w' := by
  have hmk : ∀ wq, (Instr.makeSlice 34 (.int .i64 64) (.int .i64 64)).run Try.prog wq = .ok (.slice (some ⟨wq.heap.size, 0, none⟩) 64 64) (wq.alloc (.cells (madeCells #[.int .u8 0] 64) 5)) := fun wq => run_make_row' (P := Try.prog) 34 5 (.int .u8 0) 1 Try.underlying34 A_info5 rfl .i64 .i64 64 (by omega) (by omega) wq
  have HV := Lib.hid (And.intro v0 v1)
  go_enter Try.func14, Try.ntmps14
  go_wp2_with fail
  clear hmk
  have HST : Hid ((w.alloc (.cells (madeCells #[.int .u8 0] 64) 5)).rowIs w.heap.size 5 64 (fun i => .int .u8 (if i < 0 then lineD v i else 0))) := (World.rowIs_made w (.int .u8 0) 64 5).congr fun i _ => by rw [if_neg (by omega)]
  have HBL : Hid (Below w.heap.size w (w.alloc (.cells (madeCells #[.int .u8 0] 64) 5))) := (Below.refl _ _).alloc (Nat.le_refl _) _
  generalize w.alloc (.cells (madeCells #[.int .u8 0] 64) 5) = w1 at *
  go_loopw [6] (fun i wr => ∃ k : Nat, (k : Int) ≤ 64 ∧ i = .int .i64 k ∧ wr.rowIs w.heap.size 5 64 (fun i => .int .u8 (if i < k then lineD v i else 0)) ∧ Below w.heap.size w wr) (fun i _ => 64 - (intOf i).toNat)
  case atStart => exact ⟨0, by omega, rfl, HST.out, HBL.out⟩
  case round =>
    clear HST HBL
    obtain ⟨k, hk, rfl, hr, hb⟩ := hrel
    have HR := Lib.hid hr; have HB := Lib.hid hb
    clear hr hb
    by_cases hlt : (k : Int) < 64
    · clear hk
      have hk0 : (0 : Int) ≤ (k : Int) := by omega
      have c0 : wr.cell? ⟨w.heap.size, k, none⟩ = some (.int .u8 0) := by rw [HR.out.cell (by omega), if_neg (by omega)]
      have f0 := HR.out.frozen k
      have HNX : Hid ((wr.setCell ⟨w.heap.size, k, none⟩ (.int .u8 ((v / 2 ^ (8 * (k % 8)) + (k : Int)) % 256))).rowIs w.heap.size 5 64 (fun i => .int .u8 (if i < k + 1 then lineD v i else 0))) := (HR.out.set k _).congr fun i hi => by
        by_cases e : i = k
        · subst e; rw [if_pos rfl, if_pos (by omega)]; rfl
        · rw [if_neg e]
          by_cases e2 : i < k
          · rw [if_pos e2, if_pos (by omega)]
          · rw [if_neg e2, if_neg (by omega)]
      go_wp2_with fail
      exact ⟨⟨k + 1, by omega, by rw [Int.natCast_succ], HNX.out, HB.out.setCell (Nat.le_refl _) _⟩, by simp [intOf]; omega⟩
    · obtain rfl : k = 64 := by omega
      have HRR := Lib.hid (HR.out.congr (g := fun i => .int .u8 (lineD v i)) fun i hi => by rw [if_pos hi])
      clear hk
      go_wp2_with fail
      go_ret
      exact ⟨rfl, HRR.out, HB.out⟩
/-! the searches, plainly -/
theorem wayI_none {m : Nat} {L : Nat → CLine} {x : Int} (h : ∀ j, j < m → isLine x (L j) = false) : wayI m L x = -1 := firstI_none h
theorem wayI_of {m : Nat} {L : Nat → CLine} {x : Int} {k : Nat} (hk : k < m) (h : isLine x (L k) = true) (hn : ∀ j, j < k → isLine x (L j) = false) : wayI m L x = k := firstI_of (p := fun j => isLine x (L j)) hk h hn
theorem wayI_cases (m : Nat) (L : Nat → CLine) (x : Int) : (wayI m L x = -1 ∧ ∀ j, j < m → isLine x (L j) = false) ∨ ∃ k, k < m ∧ wayI m L x = k ∧ isLine x (L k) = true ∧ ∀ j, j < k → isLine x (L j) = false := by
  have h1 := first_le m (fun j => isLine x (L j))
  rcases Nat.lt_or_ge (first (fun j => isLine x (L j)) m) m with h | h
  · right
    refine ⟨_, h, ?_, first_at m _ h, fun j hj => first_lt m _ j hj⟩
    unfold wayI firstI
    rw [if_pos h]
  · left
    have e : first (fun j => isLine x (L j)) m = m := by omega
    have hn : ∀ j, j < m → isLine x (L j) = false := fun j hj => first_lt m (fun j => isLine x (L j)) j (by rw [e]; exact hj)
    exact ⟨wayI_none hn, hn⟩
theorem isLine_new (x : Int) (D : Nat → Int) : isLine x (newL x D) = true := by simp [isLine, newL]
theorem isLine_zero (x : Int) : isLine x CLine.zero = false := rfl
theorem upL_same (L : Nat → CLine) (i : Nat) (l : CLine) : upL L i l i = l := by simp [upL]
theorem upL_ne (L : Nat → CLine) (i : Nat) (l : CLine) {j : Nat} (h : j ≠ i) : upL L i l j = L j := by simp [upL, h]
theorem upS2_same (L : Nat → Nat → CLine) (s i : Nat) (l : CLine) : upS2 L s i l s = upL (L s) i l := by simp [upS2]
theorem upS2_ne (L : Nat → Nat → CLine) (s i : Nat) (l : CLine) {t : Nat} (h : t ≠ s) : upS2 L s i l t = L t := by simp [upS2, h]
/-- what was put where it was not is found there -/
theorem wayI_put {m : Nat} {L : Nat → CLine} {x : Int} (h : wayI m L x = -1) {i : Nat} (hi : i < m) {l : CLine} (hl : isLine x l = true) : wayI m (upL L i l) x = i := by
  rcases wayI_cases m L x with ⟨_, hn⟩ | ⟨k, _, e, _⟩
  · refine wayI_of hi (by rw [upL_same]; exact hl) (fun j hj => ?_)
    rw [upL_ne _ _ _ (by omega)]
    exact hn j (by omega)
  · rw [h] at e; omega
/-- a row's own bytes as the row that Fill wants -/
theorem row_isRow {w : World} {g n : Nat} {f : Nat → Value} {t : TypeId} (h : w.rowIs g t n f) : IsRow w (some ⟨g, 0, none⟩) n f := fun _ => ⟨g, 0, rfl, h.lt, fun i hi => by rw [Nat.zero_add]; exact h.cell hi⟩
theorem setOf_one (x : Int) : setOf 1 x = 0 := by unfold setOf; omega
set_option maxHeartbeats 8000000 in
theorem cache_awake (w : World) : Calls Try.prog 9 #[] w fun e w' => e = .returned (.bool true) ∧ Below w.heap.size w w' := by
  have HN : Hid (Calls Try.prog 8 #[.int .i64 1, .int .i64 2, .int .u64 0] w (NewCache w 1 2)) := cache_new (n := 1) (m := 2) (.inl rfl) (.inl rfl) 0 (by omega) (by omega) w
  go_enter Try.func9, Try.ntmps9
  go_wp2_with fail
  refine HN.out.mono ?_
  rintro e w1 ⟨b, sb, wb, st, rfl, hc, hb, hg, hbe⟩
  have HC := Lib.hid hc; have HB := Lib.hid hb; have HG := Lib.hid hg; have HBE := Lib.hid hbe
  clear hc hb hg hbe HN
  go_wp2_with fail
  refine (law_line 5 (by omega) (by omega) w1).mono ?_
  rintro e w2 ⟨rfl, hr2, hb2⟩
  have HR2 := Lib.hid hr2
  have HBE2 := Lib.hid (HBE.out.trans (hb2.mono HBE.out.size))
  have HC2 := Lib.hid (HC.out.below hb2)
  have HAP : Hid (¬ CacheOwn sb wb 1 w1.heap.size) := fun e => by have := HC.out.lt.2 _ e; omega
  have HFI : Hid (Calls Try.prog 13 #[.pointer (some ⟨b, 0, none⟩), .int .u64 0, .slice (some ⟨w1.heap.size, 0, none⟩) 64 64] w2 (FillAt w2 b sb wb 1 2 (fun _ _ => CLine.zero) st 0 (lineD 5))) :=
    fill_ok HC2.out 0 (by omega) (by omega) (wayI_none fun j _ => rfl) w1.heap.size 0 64 (lineD 5) (lineD_bd 5) (row_isRow HR2.out) HAP.out
  clear hr2 hb2
  go_wp2_with fail
  refine HFI.out.mono ?_
  rintro e w3 hf
  obtain ⟨hc3, ht3, hr3⟩ := hf
  have e0 : setOf 1 0 = 0 := rfl
  have e1 : fillWay 2 ((fun _ _ => CLine.zero : Nat → Nat → CLine) (setOf 1 0)) (st (setOf 1 0)) = 0 := rfl
  rw [e1, e0] at hc3
  have HC3 := Lib.hid hc3; have HT3 := Lib.hid ht3
  rcases hr3 with ⟨_, rfl⟩ | ⟨h0, _⟩
  · have HBE3 : Hid (Below w.heap.size w w3) := HBE2.out.trans (HT3.out.below HBE2.out.size HG.out)
    clear hc3 ht3 HC2 HFI HR2
    have HRD : Hid (Calls Try.prog 10 #[.pointer (some ⟨b, 0, none⟩), .int .u64 0, .int .i64 1] w3 (ReadAt w3 b sb wb 1 2 (upS2 (fun _ _ => CLine.zero) 0 0 (newL 0 (lineD 5))) (upS st 0 (touched 2 (st 0) 0)) 0 1 0)) :=
      read_ok HC3.out 0 (by omega) (by omega) 1 (.inl rfl) (by omega) 0 (wayI_put (wayI_none fun j _ => rfl) (by omega) (isLine_new _ _)) (by omega)
    go_wp2_with fail
    refine HRD.out.mono ?_
    rintro e w4 ⟨rfl, hc4, ht4⟩
    have ev : wordL ((upS2 (fun _ _ => CLine.zero) 0 0 (newL 0 (lineD 5))) (setOf 1 0) 0) ((0 : Int) % 64).toNat 1 = 5 := by decide +kernel
    rw [ev]
    have HC4 := Lib.hid hc4
    have HBE4 : Hid (Below w.heap.size w w4) := HBE3.out.trans (ht4.below HBE3.out.size HG.out)
    have HLN := Lib.hid (cache_len HC4.out)
    have hln : ((validTo (upS2 (fun _ _ => CLine.zero) 0 0 (newL 0 (lineD 5))) 2 1).length : Nat) = 1 := by rfl
    rw [hln] at HLN
    clear hc4 ht4 ev hln
    go_wp2_with fail
    refine HLN.out.mono ?_
    rintro e w5 ⟨rfl, hb5⟩
    have HBE5 : Hid (Below w.heap.size w w5) := HBE4.out.trans (hb5.mono HBE4.out.size)
    clear hb5
    go_wp2_with fail
    go_ret
    exact ⟨rfl, HBE5.out⟩
  · cases h0
end Go.Proofs.Ytlcedcjcecahoaa
