/- Contracts of the cache's Write. No condition. -/
import Derived.Test.YtlcedcjcecahoaaCache2
import Derived.StillTailTactics
import Derived.BigRegion
import Derived.Deep.RegionWith
import Derived.Deep.RegionHeld3
import Derived.Deep.QuietTactic
import Derived.BigQuiet
import Derived.Deep.LoopGhost
import Derived.Deep.DeepCutAuto
import Derived.Deep.DeepFit
import Derived.Deep.DeepMust
import Derived.Handy
set_option linter.unusedVariables false
set_option linter.unusedSimpArgs false
namespace Go.Proofs.Ytlcedcjcecahoaa
open Go.RowKit
set_option maxRecDepth 100000
theorem CacheIs.way {w w' : World} {b sb s i : Nat} {wb : Nat → Nat} {n m : Nat} {L : Nat → Nat → CLine} {st : Nat → Nat} (h : CacheIs w b sb wb n m L st) (ht : Turned (· = wb s) w w') (hs : s < n) (l : CLine) (hl : l.Ok) (hr : w'.rowIs (wb s) 76 (m * 67) (wayCell (upL (L s) i l))) :
    CacheIs w' b sb wb n m (upS2 L s i l) st ∧ Turned (CacheOwn sb wb n) w w' := by
  have hne := h.sb_ne
  refine ⟨⟨(ht.block _ (blk_lt h.at_) (hne.2 s hs).1).trans h.at_, h.sets.of_block (ht.block _ h.sets.lt (hne.2 s hs).2), fun t hlt => ?_, h.inj, h.hn, h.hm, h.hst, fun t j => ?_⟩, ht.mono (by rintro g rfl; exact .inr ⟨s, hs, rfl⟩)⟩
  · by_cases e : t = s
    · subst e; unfold upS2; rw [if_pos rfl]; exact hr
    · unfold upS2
      rw [if_neg e]
      exact (h.ways t hlt).of_block (ht.block _ (h.ways t hlt).lt (fun q => e (h.inj t s hlt hs q)))
  · unfold upS2
    by_cases e : t = s
    · rw [if_pos e]
      unfold upL
      by_cases e2 : j = i
      · rw [if_pos e2]; exact hl
      · rw [if_neg e2]; exact h.ok _ _
    · rw [if_neg e]; exact h.ok _ _
/-- the slice that bits.Bytes makes, as a row -/
theorem OwnSlice.row {w w' : World} {k : Nat} {l : List Int} {e : Ending} (h : OwnSlice w k l e w') (hk : 0 < k) : ∃ g cap, e = .returned (.slice (some ⟨g, 0, none⟩) k cap) ∧ IsRow w' (some ⟨g, 0, none⟩) k (fun q => .int .u8 (l.getD q 0)) ∧ w.heap.size ≤ g ∧ Below w.heap.size w w' := by
  obtain ⟨v, rfl, ⟨h1, h2⟩, hb⟩ := h
  rcases h2 with ⟨_, h0⟩ | ⟨g, cap, cur, rfl, hg, hh, hkc, _, hcs, ht⟩
  · omega
  · refine ⟨g, cap, rfl, fun _ => ⟨g, 0, rfl, blk_lt hh, fun i hi => ?_⟩, hg, hb⟩
    have h3 : (cur.toList.take (k * 1))[i]? = (l.map (Value.int .u8))[i]? := by rw [ht]
    rw [List.getElem?_take_of_lt (by omega), Array.getElem?_toList] at h3
    rw [blk_cell hh, Nat.zero_add, h3]
    have hl : l.length = k := by simpa using h1
    simp [List.getD, show i < l.length by omega]
/-- the bytes of a number laid over a line's, from there on; it is dirty -/
def putL (l : CLine) (at_ k v : Nat) : CLine := ⟨l.v, true, l.tag, fun q => if at_ ≤ q ∧ q < at_ + k then ((v / 2 ^ (8 * (q - at_)) % 256 : Nat) : Int) else l.data q⟩
theorem putL_ok {l : CLine} (h : l.Ok) (at_ k v : Nat) : (putL l at_ k v).Ok := ⟨h.tag, fun i => by
  unfold putL
  simp only
  split
  · omega
  · exact h.data i⟩
def NoWrite (w : World) (e : Ending) (w' : World) : Prop := e = .returned (.bool false) ∧ Below w.heap.size w w'
theorem write_nil (x k v : Int) (w : World) : Calls Try.prog 12 #[.pointer none, .int .u64 x, .int .i64 k, .int .u64 v] w (NoWrite w) := by
  go_enter Try.func12, Try.ntmps12
  go_wp2_with fail
  refine (part_nil x k w).mono ?_
  rintro e w2 ⟨rfl, hb⟩
  have HB := Lib.hid hb
  clear hb
  go_wp2_with fail
  go_ret
  exact ⟨rfl, HB.out⟩
theorem write_no {w : World} {b sb : Nat} {wb : Nat → Nat} {n m : Nat} {L : Nat → Nat → CLine} {st : Nat → Nat} (h : CacheIs w b sb wb n m L st) (x : Int) (h0 : 0 ≤ x) (h1 : x < 18446744073709551616) (k v : Int) (hno : wayI m (L (setOf n x)) x < 0) :
    Calls Try.prog 12 #[.pointer (some ⟨b, 0, none⟩), .int .u64 x, .int .i64 k, .int .u64 v] w (NoWrite w) := by
  have HP := Lib.hid (part_no h x h0 h1 k hno)
  clear h h0 h1 hno
  go_enter Try.func12, Try.ntmps12
  go_wp2_with fail
  refine HP.out.mono ?_
  rintro e w2 ⟨rfl, hb⟩
  have HB := Lib.hid hb
  clear hb
  go_wp2_with fail
  go_ret
  exact ⟨rfl, HB.out⟩
def WriteAt (w : World) (b sb : Nat) (wb : Nat → Nat) (n m : Nat) (L : Nat → Nat → CLine) (st : Nat → Nat) (x : Int) (k i v : Nat) (e : Ending) (w' : World) : Prop :=
  e = .returned (.bool true) ∧ CacheIs w' b sb wb n m (upS2 L (setOf n x) i (putL (L (setOf n x) i) (x % 64).toNat k v)) (upS st (setOf n x) (touched m (st (setOf n x)) i)) ∧ Turned (CacheOwn sb wb n) w w'
theorem numBytes_getD (v k i : Nat) (h : i < k) : (numBytes v k).getD i 0 = ((v / 2 ^ (8 * i) % 256 : Nat) : Int) := by simp [numBytes, List.getD, h]
theorem way_put {w : World} {g m i : Nat} {L : Nat → CLine} {at_ k v : Nat} (hi : (i + 1) * 67 ≤ m * 67) (ha : at_ + k ≤ 64) (h : w.rowIs g 76 (m * 67) (fun q => if i * 67 + 3 + at_ ≤ q ∧ q < i * 67 + 3 + at_ + k then .int .u8 ((numBytes v k).getD (q - (i * 67 + 3 + at_)) 0) else wayCell L q)) :
    (w.setCell ⟨g, i * 67 + 1, none⟩ (.bool true)).rowIs g 76 (m * 67) (wayCell (upL L i (putL (L i) at_ k v))) := by
  refine (h.set (i * 67 + 1) _).congr fun q hq => ?_
  by_cases h1 : i * 67 ≤ q ∧ q < i * 67 + 67
  · obtain ⟨r, rfl⟩ : ∃ r, q = i * 67 + r := ⟨q - i * 67, by omega⟩
    have hu : upL L i (putL (L i) at_ k v) i = putL (L i) at_ k v := by simp [upL]
    rw [wayCell_at (upL L i (putL (L i) at_ k v)) i r (by omega), hu]
    unfold lineCell putL
    by_cases r1 : r = 1
    · subst r1; simp
    · rw [if_neg (by omega)]
      by_cases r2 : i * 67 + 3 + at_ ≤ i * 67 + r ∧ i * 67 + r < i * 67 + 3 + at_ + k
      · rw [if_pos r2, if_neg (by omega), if_neg (by omega), if_neg (by omega)]
        simp only
        rw [if_pos (by omega), numBytes_getD _ _ _ (by omega), show i * 67 + r - (i * 67 + 3 + at_) = r - 3 - at_ by omega]
      · rw [if_neg r2, wayCell_at _ _ _ (by omega)]
        unfold lineCell
        by_cases r0 : r = 0
        · subst r0; rfl
        · rw [if_neg r0, if_neg r1, if_neg r0, if_neg r1]
          by_cases r3 : r = 2
          · rw [if_pos r3, if_pos r3]
          · rw [if_neg r3, if_neg r3]
            simp only
            rw [if_neg (by omega)]
  · rw [if_neg (by omega), if_neg (by omega)]
    unfold wayCell upL
    rw [if_neg (by omega)]
set_option maxHeartbeats 8000000 in
theorem write_ok {w : World} {b sb : Nat} {wb : Nat → Nat} {n m : Nat} {L : Nat → Nat → CLine} {st : Nat → Nat} (h : CacheIs w b sb wb n m L st) (x : Int) (h0 : 0 ≤ x) (h1 : x < 18446744073709551616) (k : Nat) (hk : Size4 k) (ha : x % k = 0) (i : Nat) (hi : wayI m (L (setOf n x)) x = i) (hm : i < m) (v : Nat) :
    Calls Try.prog 12 #[.pointer (some ⟨b, 0, none⟩), .int .u64 x, .int .i64 k, .int .u64 v] w (WriteAt w b sb wb n m L st x k i v) := by
  have HP := Lib.hid (part_ok h x h0 h1 k hk ha i hi hm)
  have hs := setOf_lt h.hn x
  have hat : (x % 64).toNat + k ≤ 64 ∧ 0 < k ∧ k ≤ 8 := by rcases hk with rfl | rfl | rfl | rfl <;> omega
  have HAT := Lib.hid hat
  have HS := Lib.hid hs
  have HM := Lib.hid hm
  have hmi := Nat.mul_le_mul_right 67 (show i + 1 ≤ m from hm)
  have HMI := Lib.hid hmi
  have HBY := fun W => Lib.hid (bits_bytes v k (by omega) W)
  clear h h0 h1 hk ha hi hm hs hat hmi
  unfold PartAt at HP
  unfold WriteAt
  generalize setOf n x = s at *
  generalize (x % 64).toNat = at_ at *
  go_enter Try.func12, Try.ntmps12
  go_wp2_with fail
  refine HP.out.mono ?_
  rintro e w2 ⟨rfl, hc, ht⟩
  have HC := Lib.hid hc; have HT := Lib.hid ht
  clear hc ht
  go_wp2_with fail
  refine ((HBY w2).out).mono ?_
  rintro e w3 ho
  obtain ⟨g, cap, rfl, hrow, hg, hb3⟩ := ho.row HAT.out.2.1
  have HROW := Lib.hid hrow; have HB3 := Lib.hid hb3; have HG := Lib.hid hg
  have HC3 := Lib.hid (HC.out.below hb3)
  have HW3 := Lib.hid (HC3.out.ways s HS.out)
  have HKK : Hid (k = Nat.min k k) := (Nat.min_self k).symm
  clear ho hrow hb3 hg HBY
  go_wp2_with ((with_reducible refine wpList_copy_row rfl (.tmp 20) (.tmp 23) 34 34 rfl 5 Try.underlying34 (by kernel_rfl) (wb s) (i * 67 + 3 + at_) k (64 - at_) (some ⟨g, 0, none⟩) k cap rfl rfl 76 (m * 67) (wayCell (L s)) HW3 k HKK.out (fun q => .int .u8 ((numBytes v k).getD q 0)) HROW (by have := HAT.out; have := HMI.out; omega) (fun _ _ => rfl) HAT.out.2.1 ?_); intro w4 hr4 ht4; have hd : w4.cell? ⟨wb s, i * 67 + 1, none⟩ = some (.bool (L s i).d) := (by rw [hr4.out.cell (by have := HMI.out; omega), if_neg (by omega), wayCell_at _ _ _ (by omega)]; rfl); have hf := hr4.out.frozen (i * 67 + 1))

  go_ret
  have hz := way_put HMI.out HAT.out.1 hr4.out
  obtain ⟨z1, z2⟩ := HC3.out.way (w' := w4.setCell ⟨wb s, i * 67 + 1, none⟩ (.bool true)) (ht4.out.set (.inl rfl) _ _) HS.out _ (putL_ok (HC3.out.ok s i) at_ k v) hz
  exact ⟨rfl, z1, HT.out.trans ((Turned.of_below HB3.out (CacheOwn sb wb n)).trans z2 (fun _ => .inl)) (fun _ => .inl)⟩
end Go.Proofs.Ytlcedcjcecahoaa
