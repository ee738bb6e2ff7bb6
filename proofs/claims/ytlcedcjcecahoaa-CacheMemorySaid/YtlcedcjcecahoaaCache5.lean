/- Contracts of the cache's Drop, Clean; Fill where it refuses. No condition. -/
import Derived.Test.YtlcedcjcecahoaaCache4
import Derived.StillTailTactics
import Derived.BigRegion
import Derived.Deep.RegionWith
import Derived.Deep.RegionHeld3
import Derived.Deep.RegionLaw
import Derived.Deep.QuietTactic
import Derived.BigQuiet
import Derived.Deep.LoopGhost
import Derived.Deep.DeepCutAuto
import Derived.Deep.DeepFit
import Derived.Deep.DeepMust
import Derived.Handy
set_option linter.unusedVariables false
set_option linter.unusedSimpArgs false
namespace Go.Proofs.Ytlcedcjcecahoaa
open Go.RowKit
set_option maxRecDepth 100000
attribute [local go_sem ↓] ld_line st_line sl_64
attribute [local go_sem] rl_line rs_line run_slice64_all set_new there_new zc_line
/-! Drop -/
theorem drop_nil (x : Int) (w : World) : Calls Try.prog 18 #[.pointer none, .int .u64 x] w fun e w' => e = .returned (.bool false) ∧ Below w.heap.size w w' := by
  go_enter Try.func18, Try.ntmps18
  go_wp2_with fail
  refine (find_nil x w).mono ?_
  rintro e w2 ⟨rfl, hb⟩
  have HB := Lib.hid hb
  clear hb
  go_wp2_with fail
  go_ret
  exact ⟨rfl, HB.out⟩
theorem drop_no {w : World} {b sb : Nat} {wb : Nat → Nat} {n m : Nat} {L : Nat → Nat → CLine} {st : Nat → Nat} (h : CacheIs w b sb wb n m L st) (x : Int) (h0 : 0 ≤ x) (h1 : x < 18446744073709551616) (hno : wayI m (L (setOf n x)) x < 0) :
    Calls Try.prog 18 #[.pointer (some ⟨b, 0, none⟩), .int .u64 x] w fun e w' => e = .returned (.bool false) ∧ Below w.heap.size w w' := by
  have HF := Lib.hid (cache_find h x h0 h1)
  clear h h0 h1
  generalize wayI m (L (setOf n x)) x = wi at *
  go_enter Try.func18, Try.ntmps18
  go_wp2_with fail
  refine HF.out.mono ?_
  rintro e w2 ⟨rfl, hb⟩
  have HB := Lib.hid hb
  clear hb
  go_wp2_with fail
  go_ret
  exact ⟨rfl, HB.out⟩
set_option maxHeartbeats 4000000 in
theorem drop_ok {w : World} {b sb : Nat} {wb : Nat → Nat} {n m : Nat} {L : Nat → Nat → CLine} {st : Nat → Nat} (h : CacheIs w b sb wb n m L st) (x : Int) (h0 : 0 ≤ x) (h1 : x < 18446744073709551616) (i : Nat) (hi : wayI m (L (setOf n x)) x = i) (hm : i < m) :
    Calls Try.prog 18 #[.pointer (some ⟨b, 0, none⟩), .int .u64 x] w fun e w' => e = .returned (.bool true) ∧ CacheIs w' b sb wb n m (upS2 L (setOf n x) i CLine.zero) st ∧ Turned (CacheOwn sb wb n) w w' := by
  have HF := Lib.hid (cache_find h x h0 h1)
  rw [hi] at HF
  have H := Lib.hid h
  have HS := Lib.hid (setOf_lt h.hn x)
  have HM := Lib.hid hm
  have HI0 : (0 : Int) ≤ (i : Int) := by omega
  have him : (i : Int) < m := by omega
  clear h h0 h1 hi hm
  generalize setOf n x = s at *
  go_enter Try.func18, Try.ntmps18
  go_wp2_with fail
  refine HF.out.mono ?_
  rintro e w2 ⟨rfl, hb⟩
  have HB := Lib.hid hb
  have H2 := Lib.hid (H.out.below hb)
  clear hb
  have c0 : w2.cell? ⟨sb, s * 2, none⟩ = some (.slice (some ⟨wb s, 0, none⟩) m m) := by rw [H2.out.sets.cell (by have := HS.out; omega), setCellF_0]
  have e1 := way_there (H2.out.ways s HS.out) HM.out
  have HR := Lib.hid (way_store (H2.out.ways s HS.out) HM.out CLine.zero)
  have HT : Hid (Turned (· = wb s) w2 (w2.setCells (wb s) (i * 67) (lineArr CLine.zero).toList)) := turned_setCells _ _ _ _ _ (Turned.refl _ w2)
  have HZ := Lib.hid (H2.out.way HT.out HS.out _ CLine.zero_ok HR.out)
  clear HR HT
  go_wp2_with fail
  go_ret
  exact ⟨rfl, HZ.out.1, (Turned.of_below HB.out (CacheOwn sb wb n)).trans HZ.out.2 (fun _ => .inl)⟩
/-! Clean -/
def NoClean (w : World) (e : Ending) (w' : World) : Prop := e = .returned (.tuple #[.slice none 0 0, .bool false]) ∧ Below w.heap.size w w'
theorem clean_nil (x : Int) (w : World) : Calls Try.prog 16 #[.pointer none, .int .u64 x] w (NoClean w) := by
  go_enter Try.func16, Try.ntmps16
  go_wp2_with fail
  refine (find_nil x w).mono ?_
  rintro e w2 ⟨rfl, hb⟩
  have HB := Lib.hid hb
  clear hb
  go_wp2_with fail
  go_ret2
  exact ⟨rfl, HB.out⟩
theorem clean_no {w : World} {b sb : Nat} {wb : Nat → Nat} {n m : Nat} {L : Nat → Nat → CLine} {st : Nat → Nat} (h : CacheIs w b sb wb n m L st) (x : Int) (h0 : 0 ≤ x) (h1 : x < 18446744073709551616) (hno : wayI m (L (setOf n x)) x < 0) :
    Calls Try.prog 16 #[.pointer (some ⟨b, 0, none⟩), .int .u64 x] w (NoClean w) := by
  have HF := Lib.hid (cache_find h x h0 h1)
  clear h h0 h1
  generalize wayI m (L (setOf n x)) x = wi at *
  go_enter Try.func16, Try.ntmps16
  go_wp2_with fail
  refine HF.out.mono ?_
  rintro e w2 ⟨rfl, hb⟩
  have HB := Lib.hid hb
  clear hb
  go_wp2_with fail
  go_ret2
  exact ⟨rfl, HB.out⟩
theorem line_cell {w : World} {g m i : Nat} {L : Nat → CLine} (h : w.rowIs g 76 (m * 67) (wayCell L)) (hi : i < m) (r : Nat) (hr : r < 67) : w.cell? ⟨g, i * 67 + r, none⟩ = some (lineCell (L i) r) := by
  have := Nat.mul_le_mul_right 67 (show i + 1 ≤ m from hi)
  rw [h.cell (by omega), wayCell_at _ _ _ hr]
set_option maxHeartbeats 4000000 in
theorem clean_clean {w : World} {b sb : Nat} {wb : Nat → Nat} {n m : Nat} {L : Nat → Nat → CLine} {st : Nat → Nat} (h : CacheIs w b sb wb n m L st) (x : Int) (h0 : 0 ≤ x) (h1 : x < 18446744073709551616) (i : Nat) (hi : wayI m (L (setOf n x)) x = i) (hm : i < m) (hd : (L (setOf n x) i).d = false) :
    Calls Try.prog 16 #[.pointer (some ⟨b, 0, none⟩), .int .u64 x] w (NoClean w) := by
  have HF := Lib.hid (cache_find h x h0 h1)
  rw [hi] at HF
  have H := Lib.hid h
  have HS := Lib.hid (setOf_lt h.hn x)
  have HM := Lib.hid hm
  have HD := Lib.hid hd
  have HI0 : (0 : Int) ≤ (i : Int) := by omega
  have him : (i : Int) < m := by omega
  clear h h0 h1 hi hm hd
  generalize setOf n x = s at *
  go_enter Try.func16, Try.ntmps16
  go_wp2_with fail
  refine HF.out.mono ?_
  rintro e w2 ⟨rfl, hb⟩
  have HB := Lib.hid hb
  have H2 := Lib.hid (H.out.below hb)
  clear hb
  have c0 : w2.cell? ⟨sb, s * 2, none⟩ = some (.slice (some ⟨wb s, 0, none⟩) m m) := by rw [H2.out.sets.cell (by have := HS.out; omega), setCellF_0]
  have c1 : w2.cell? ⟨wb s, i * 67 + 1, none⟩ = some (.bool false) := by
    rw [line_cell (H2.out.ways s HS.out) HM.out 1 (by omega)]
    show some (Value.bool (L s i).d) = _
    rw [HD.out]
  go_wp2_with fail
  go_ret2
  exact ⟨rfl, HB.out⟩
def cleanL (l : CLine) : CLine := ⟨l.v, false, l.tag, l.data⟩
def CleanAt (w : World) (b sb : Nat) (wb : Nat → Nat) (n m : Nat) (L : Nat → Nat → CLine) (st : Nat → Nat) (x : Int) (i : Nat) (e : Ending) (w' : World) : Prop :=
  CacheIs w' b sb wb n m (upS2 L (setOf n x) i (cleanL (L (setOf n x) i))) st ∧ Turned (CacheOwn sb wb n) w w' ∧ ∃ g cap, e = .returned (.tuple #[.slice (some ⟨g, 0, none⟩) 64 cap, .bool true]) ∧ Own64 w' w.heap.size g (L (setOf n x) i).data
set_option maxHeartbeats 8000000 in
theorem clean_dirty {w : World} {b sb : Nat} {wb : Nat → Nat} {n m : Nat} {L : Nat → Nat → CLine} {st : Nat → Nat} (h : CacheIs w b sb wb n m L st) (x : Int) (h0 : 0 ≤ x) (h1 : x < 18446744073709551616) (i : Nat) (hi : wayI m (L (setOf n x)) x = i) (hm : i < m) (hd : (L (setOf n x) i).d = true) :
    Calls Try.prog 16 #[.pointer (some ⟨b, 0, none⟩), .int .u64 x] w (CleanAt w b sb wb n m L st x i) := by
  have HF := Lib.hid (cache_find h x h0 h1)
  rw [hi] at HF
  have H := Lib.hid h
  have HS := Lib.hid (setOf_lt h.hn x)
  have HM := Lib.hid hm
  have HD := Lib.hid hd
  have HI0 : (0 : Int) ≤ (i : Int) := by omega
  have him : (i : Int) < m := by omega
  have HQ : Hid (∀ e w', (CacheIs w' b sb wb n m (upS2 L (setOf n x) i (cleanL (L (setOf n x) i))) st ∧ Turned (CacheOwn sb wb n) w w' ∧ ∃ g cap, e = .returned (.tuple #[.slice (some ⟨g, 0, none⟩) 64 cap, .bool true]) ∧ Own64 w' w.heap.size g (L (setOf n x) i).data) → CleanAt w b sb wb n m L st x i e w') := fun _ _ q => q
  clear h h0 h1 hi hm hd
  generalize setOf n x = s at *
  go_enter Try.func16, Try.ntmps16
  go_wp2_with fail
  refine HF.out.mono ?_
  rintro e w2 ⟨rfl, hb⟩
  have HB := Lib.hid hb
  have H2 := Lib.hid (H.out.below hb)
  clear hb
  have c0 : w2.cell? ⟨sb, s * 2, none⟩ = some (.slice (some ⟨wb s, 0, none⟩) m m) := by rw [H2.out.sets.cell (by have := HS.out; omega), setCellF_0]
  have c1 : w2.cell? ⟨wb s, i * 67 + 1, none⟩ = some (.bool true) := by
    rw [line_cell (H2.out.ways s HS.out) HM.out 1 (by omega)]
    show some (Value.bool (L s i).d) = _
    rw [HD.out]
  have f1 : w2.frozen? ⟨wb s, i * 67 + 1, none⟩ = false := (H2.out.ways s HS.out).frozen _
  have hrow : (w2.setCell ⟨wb s, i * 67 + 1, none⟩ (.bool false)).rowIs (wb s) 76 (m * 67) (wayCell (upL (L s) i (cleanL (L s i)))) := by
    refine ((H2.out.ways s HS.out).set (i * 67 + 1) _).congr fun q hq => ?_
    by_cases h1 : i * 67 ≤ q ∧ q < i * 67 + 67
    · obtain ⟨r, rfl⟩ : ∃ r, q = i * 67 + r := ⟨q - i * 67, by omega⟩
      have hu : upL (L s) i (cleanL (L s i)) i = cleanL (L s i) := by simp [upL]
      rw [wayCell_at (upL (L s) i (cleanL (L s i))) i r (by omega), wayCell_at (L s) i r (by omega), hu]
      unfold lineCell cleanL
      by_cases r1 : r = 1
      · subst r1; simp
      · rw [if_neg (by omega)]
        by_cases r0 : r = 0
        · simp [r0]
        · simp [r0, r1]
    · rw [if_neg (by omega)]
      unfold wayCell upL
      rw [if_neg (by omega)]
  have hok : (cleanL (L s i)).Ok := ⟨(H2.out.ok s i).tag, (H2.out.ok s i).data⟩
  have HZ := Lib.hid (H2.out.way ((Turned.refl (· = wb s) w2).set (.inl rfl) (i * 67 + 1) (.bool false)) HS.out _ hok hrow)
  have c2 : (w2.setCell ⟨wb s, i * 67 + 1, none⟩ (.bool false)).cell? ⟨sb, s * 2, none⟩ = some (.slice (some ⟨wb s, 0, none⟩) m m) := by rw [HZ.out.1.sets.cell (by have := HS.out; omega), setCellF_0]
  have HS64 : Hid (∀ j u, ((List.range 64).map fun q => Value.int .u8 ((L s i).data q))[j]? = some u → (w2.setCell ⟨wb s, i * 67 + 1, none⟩ (.bool false)).cell? ((⟨wb s, i * 67 + 3, none⟩ : Addr).add j) = some u) := fun j u hj => by
    have hj64 : j < 64 := by have := (List.getElem?_eq_some_iff.1 hj).1; simpa using this
    simp [hj64] at hj
    have hu : upL (L s) i (cleanL (L s i)) i = cleanL (L s i) := by simp [upL]
    rw [addr_add, show i * 67 + 3 + j = i * 67 + (3 + j) by omega, line_cell hrow HM.out (3 + j) (by omega), hu, ← hj]
    unfold lineCell cleanL
    rw [if_neg (by omega), if_neg (by omega), if_neg (by omega), show 3 + j - 3 = j by omega]
  obtain ⟨i0, hi0, hz0⟩ := Option.map_eq_some_iff.1 A_info5
  simp only [Prod.mk.injEq] at hz0
  have HI5 := Lib.hid hi0; have HZ0 := Lib.hid hz0
  clear hi0 hz0 hrow hok
  have HZC : Hid ((Value.int .u8 0).cells.size = 1) := rfl
  have HON : Hid (∀ u ∈ ((List.range 64).map fun q => Value.int .u8 ((L s i).data q)), u.oneCell' = true) := fun u hu => by
    simp only [List.mem_map] at hu
    obtain ⟨q, _, rfl⟩ := hu
    rfl
  have HLN : Hid (((List.range 64).map fun q => Value.int .u8 ((L s i).data q)).length = 64 * 1) := by show List.length _ = _; simp
  have HBS : Hid (w2.heap.size ≤ (w2.setCell ⟨wb s, i * 67 + 1, none⟩ (.bool false)).heap.size) := by show _ ≤ _; simp
  have HMX : Hid (0 + 64 ≤ maxLen) := by show _ ≤ _; unfold maxLen; omega
  go_wp2_with ((with_reducible refine wpList_append_own _ rfl (.const (.slice none 0 0)) (.tmp 41) 34 rfl (w2.heap.size) 5 i0 (.int .u8 0) 1 1 Try.underlying34 HI5.out HZ0.out.1 HZ0.out.2.1 HZ0.out.2.2 HZC.out (by decide) (.slice none 0 0) 0 [] rfl (World.ownsRow_nil _ _ _ _) ⟨wb s, i * 67 + 3, none⟩ 64 64 ((List.range 64).map fun q => Value.int .u8 ((L s i).data q)) rfl HLN.out HS64.out HON.out HMX.out (by omega) HBS.out ?_); intro v9 w9 hown hgrow _)
  obtain ⟨_, hh | ⟨g', cap', cur, hv9, hg9, hh9, _, _, hc9, ht9⟩⟩ := hown
  · cases hh.2
  · subst hv9
    have hbg : Below (w2.setCell ⟨wb s, i * 67 + 1, none⟩ (.bool false)).heap.size (w2.setCell ⟨wb s, i * 67 + 1, none⟩ (.bool false)) w9 := below_of_grown_nil hgrow
    have hO : Own64 w9 w.heap.size g' (L s i).data := ⟨Nat.le_trans HB.out.size hg9, cur, hh9, fun q hq => by
      have h3 : (cur.toList.take ((0 + 64) * 1))[q]? = ([] ++ ((List.range 64).map fun q => Value.int .u8 ((L s i).data q)))[q]? := by rw [ht9]
      rw [List.getElem?_take_of_lt (by omega), Array.getElem?_toList, List.nil_append] at h3
      rw [h3]; simp [hq]⟩
    go_ret2
    exact HQ.out _ _ ⟨HZ.out.1.below hbg, (Turned.of_below HB.out (CacheOwn sb wb n)).trans (HZ.out.2.trans (Turned.of_below hbg (CacheOwn sb wb n)) (fun _ => .inl)) (fun _ => .inl), g', cap', rfl, hO⟩
end Go.Proofs.Ytlcedcjcecahoaa
