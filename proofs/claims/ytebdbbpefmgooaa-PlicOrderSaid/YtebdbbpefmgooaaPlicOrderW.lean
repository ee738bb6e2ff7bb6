/- PlicOrder: the walk, of any slice, nil too. No condition. -/
import Derived.Test.YtebdbbpefmgooaaPlicOrdE
import Derived.Test.YtebdbbpefmgooaaArgs
import Derived.StillTailTactics
import Derived.BigRegion
import Derived.Deep.RegionWith
import Derived.Deep.QuietTactic
import Derived.BigQuiet
import Derived.Deep.LoopGhost
import Derived.Deep.DeepCutAuto
import Derived.Deep.DeepFit
import Derived.Deep.DeepMust
set_option linter.unusedVariables false
set_option linter.unusedSimpArgs false
namespace Go.Proofs.Ytebdbbpefmgooaa
open Go.RowKit
attribute [local go_sem ↓] ld_dev ld_ref ld_plc st_dev st_ref st_plc
attribute [local go_sem] rl_dev rl_ref rl_plc rs_dev rs_ref rs_plc Dev.size_cells Dev.st_ok Dev.c0 Dev.c1 Dev.c2 Dev.c3 Dev.c4 Dev.c5 Dev.c6 Dev.c7 Dev.c8 Dev.c9 Dev.c10 Dev.c11 Dev.c12 Dev.c13 Dev.c14 Dev.c15 Dev.c16 Dev.c17 Dev.c18 Dev.c19 Dev.c20 Dev.c21 Dev.set_pend Dev.set_cla row_alloc row_drew row_drewN is_alloc is_drew is_drewN row_setCell is_setCell setRow_alloc_new objRow_cells objIs_cells row_setRow_same row_setRow_other is_setRow_same is_setRow_other
def ordP (z : Nat → Int) (len : Nat) : Nat → Nat := fun s => if 1 ≤ s ∧ s ≤ len ∧ s ≤ 7 then ((z (s - 1) % 18446744073709551616) % 8).toNat else 0
theorem ordP_lt (z : Nat → Int) (len : Nat) (s : Nat) : ordP z len s < 8 := by unfold ordP; split <;> omega
theorem ordP_8 (z : Nat → Int) (len : Nat) : ∀ s, ¬ s < 8 → ordP z len s = 0 := by intro s h; unfold ordP; rw [if_neg (by omega)]
theorem ordP_0 (z : Nat → Int) (len : Nat) : ordP z len 0 = 0 := rfl
theorem ordP_i (z : Nat → Int) (len k : Nat) (h : k < len) (h7 : k < 7) : wrap64 ((IntKind.u64.wrap (z k)).tmod 8) = (ordP z len (k + 1) : Int) := by
  unfold ordP
  rw [if_pos ⟨by omega, by omega, by omega⟩, Nat.add_sub_cancel, IntKind.wrap_u64, Int.tmod_eq_emod_of_nonneg (by omega)]
  unfold wrap64
  omega
theorem ordP_none (z : Nat → Int) (len k : Nat) (h : ¬ k < len) : ordP z len (k + 1) = 0 := by unfold ordP; rw [if_neg (by omega)]
theorem PlicHere.other {W w : World} {b : Nat} {d : Dev} (h : PlicHere W b d w) (g o : Nat) (v : Value) (hg : W.heap.size ≤ g) (hne : g ≠ b) : PlicHere W b d (w.setCell ⟨g, o, none⟩ v) :=
  ⟨(blk_set_ne ⟨g, o, none⟩ v hne).trans h.at_, h.ok, h.ge, h.below.setCell hg v⟩
/-- the same, and no other block has turned -/
theorem here_write_fix {W w : World} {b : Nat} {d : Dev} (h : PlicHere W b d w) (off size v : Int) (v0 : 0 ≤ v) (v1 : v < 18446744073709551616) :
    Calls Try.prog 26 #[.pointer (some ⟨b, 0, none⟩), .int .u64 off, .int .i64 size, .int .u64 v] w fun e w' => e = .returned (.int .i64 (d.write off size v.toNat).1) ∧ PlicHere W b (d.write off size v.toNat).2 w' ∧ (∀ g o, g ≠ b → w.heap[g]? = some o → w'.heap[g]? = some o) := by
  obtain ⟨n, rfl⟩ := Int.eq_ofNat_of_zero_le v0
  exact (plic_write_any d h.ok off size n (by omega) b w h.at_).mono fun e w' hh => ⟨hh.1, h.set hh.2 (d.write_ok h.ok _ _ _), fun g o hg ho => (hh.2.2.block g (blk_lt ho) (by intro e; exact hg (Option.some.inj e))).trans ho⟩
theorem here_tick_fix {W w : World} {b : Nat} {d : Dev} (h : PlicHere W b d w) (l : Int) (l0 : 0 ≤ l) (l1 : l < 4294967296) :
    Calls Try.prog 27 #[.pointer (some ⟨b, 0, none⟩), .int .u32 l] w fun e w' => e = .returned (.tuple #[]) ∧ PlicHere W b (d.tick l.toNat) w' ∧ (∀ g o, g ≠ b → w.heap[g]? = some o → w'.heap[g]? = some o) := by
  obtain ⟨n, rfl⟩ := Int.eq_ofNat_of_zero_le l0
  exact (plic_tick d h.ok b n (by omega) w h.at_).mono fun e w' hh => ⟨hh.1, h.set hh.2 (d.tick_ok _ h.ok (by omega)), fun g o hg ho => (hh.2.2.block g (blk_lt ho) (by intro e; exact hg (Option.some.inj e))).trans ho⟩
theorem here_read_fix {W w : World} {b : Nat} {d : Dev} (h : PlicHere W b d w) (off size : Int) :
    Calls Try.prog 28 #[.pointer (some ⟨b, 0, none⟩), .int .u64 off, .int .i64 size] w fun e w' => e = .returned (.tuple #[.int .u64 ((d.read off size).1 : Nat), .int .i64 (d.read off size).2.1]) ∧ PlicHere W b (d.read off size).2.2 w' ∧ (∀ g o, g ≠ b → w.heap[g]? = some o → w'.heap[g]? = some o) :=
  (plic_read_any d h.ok off size b w h.at_).mono fun e w' hh => ⟨hh.1, h.set hh.2 (d.read_ok h.ok _ _).1, fun g o hg ho => (hh.2.2.block g (blk_lt ho) (by intro e; exact hg (Option.some.inj e))).trans ho⟩
theorem ord_count (x en lv k : Nat) (P : Nat → Nat) (hen : en < 2 ^ 32) (hlv : lv < 2 ^ 32) (hb : x.testBit (k + 1) = (en.testBit (k + 1) && lv.testBit (k + 1))) :
    (bits .and .u32 ((en : Int) / 2 ^ (k + 1)) 1 = 0 ∧ cnt x P (k + 1) = cnt x P k) ∨
    (bits .and .u32 ((en : Int) / 2 ^ (k + 1)) 1 = 1 ∧ bits .and .u32 ((lv : Int) / 2 ^ (k + 1)) 1 = 0 ∧ cnt x P (k + 1) = cnt x P k) ∨
    (bits .and .u32 ((en : Int) / 2 ^ (k + 1)) 1 = 1 ∧ bits .and .u32 ((lv : Int) / 2 ^ (k + 1)) 1 = 1 ∧ ¬ (0 : Int) < P (k + 1) ∧ cnt x P (k + 1) = cnt x P k) ∨
    (bits .and .u32 ((en : Int) / 2 ^ (k + 1)) 1 = 1 ∧ bits .and .u32 ((lv : Int) / 2 ^ (k + 1)) 1 = 1 ∧ (0 : Int) < P (k + 1) ∧ cnt x P (k + 1) = cnt x P k + 1) := by
  rw [bit32i en _ hen, bit32i lv _ hlv, cnt_step, hb]
  cases en.testBit (k + 1) with
  | false => left; simp
  | true =>
    right
    cases lv.testBit (k + 1) with
    | false => left; simp
    | true =>
      right
      by_cases h : 0 < P (k + 1)
      · right; simp [h]
      · left; simp [h]
/-- the argument: nil, or so many numbers that were there -/
def PriosAre (w : World) (a : Option Addr) (len : Nat) (z : Nat → Int) : Prop := 0 < len → ∃ b o, a = some ⟨b, o, none⟩ ∧ b < w.heap.size ∧ ∀ i, i < len → w.cell? ⟨b, o + i, none⟩ = some (.int .i64 (z i))
theorem PriosAre.some_ {w : World} {a : Option Addr} {len : Nat} {z : Nat → Int} (h : PriosAre w a len z) {k : Nat} (hk : k < len) : ∃ b o, a = some ⟨b, o, none⟩ ∧ b < w.heap.size ∧ ∀ i, i < len → w.cell? ⟨b, o + i, none⟩ = some (.int .i64 (z i)) := by
  exact h (by omega)
set_option maxRecDepth 100000 in
set_option maxHeartbeats 4000000 in
theorem order_any (a : Option Addr) (len cap : Nat) (z : Nat → Int) (en lv : Nat) (hen : en < 2 ^ 32) (hlv : lv < 2 ^ 32) (hl : len ≤ 9223372036854775807) (w : World) (hz : PriosAre w a len z) :
    Calls Try.prog 5 #[.slice a len cap, .int .u32 en, .int .u32 lv] w fun e w' => e = .returned (.bool true) ∧ Below w.heap.size w w' := by
  have HZ := Lib.hid hz; have HEN := Lib.hid hen; have HLV := Lib.hid hlv
  clear hz hen hlv
  have P0 := Lib.hid (ordP_0 z len)
  have PL := Lib.hid (ordP_lt z len)
  have PI := Lib.hid (ordP_i z len)
  have PN := Lib.hid (ordP_none z len)
  have P8 := Lib.hid (ordP_8 z len)
  generalize ordP z len = P at *
  go_enter Try.func5, Try.ntmps5
  go_wp2_with fail
  refine (plic_new _).mono ?_
  rintro e w1 ⟨rfl, rfl⟩
  have H := Lib.hid (PlicHere.new w)
  go_wp2_with fail
  refine (plic_awake _).mono ?_
  rintro e w2 ⟨rfl, hb⟩
  have hlt : w.heap.size < w2.heap.size := blk_lt (H.out.keep hb).at_
  have H1 : Hid (PlicHere w w.heap.size (ordD P 1) w2) := by
    have hd : ordD P 1 = dev0 := by
      show ({ dev0 with pr := _ } : Dev) = { dev0 with pr := dev0.pr }
      have : (fun j => if j < 1 then P j else 0) = dev0.pr := by
        funext j
        by_cases h : j < 1
        · obtain rfl : j = 0 := by omega
          rw [if_pos h, P0.out]; rfl
        · rw [if_neg h]; rfl
      rw [this]
    rw [hd]
    exact H.out.keep hb
  clear hb H
  go_wp2_with fail
  go_loopw [9] (fun i wr => ∃ k : Nat, k ≤ 7 ∧ i = .int .i64 (k + 1) ∧ wr.heap[w2.heap.size]? = some (.cells (ordArr P (k + 1)) 52 (0, 0)) ∧ PlicHere w w.heap.size (ordD P (k + 1)) wr) (fun i _ => 8 - (intOf i).toNat)
  case atStart => exact ⟨0, by omega, rfl, blk_alloc w2 _, H1.out.keep ((Below.refl _ _).alloc (Nat.le_refl _) _)⟩
  case round =>
    clear H1
    obtain ⟨k, hk, rfl, hh, hp⟩ := hrel
    have hg2 : Hid ((w2.heap.size ≠ w.heap.size) ∧ w.heap.size ≤ w2.heap.size) := ⟨by omega, by omega⟩
    by_cases hk7 : k < 7
    · have HP := Lib.hid hp
      have hkk : (k : Int) < 7 := by omega
      have hw1 : (ordD P (k + 1)).write (4 * ((k + 1 : Nat) : Int)) 4 (P (k + 1)) = (0, ordD P (k + 1 + 1)) := ordD_write P PL.out (k + 1) (by omega) (by omega)
      have HW1 := Lib.hid hw1
      have hpl8 : (P (k + 1) : Int) < 8 := by have := PL.out (k + 1); omega
      clear hp hw1 hk7
      by_cases hkl : k < len
      · obtain ⟨b, o, rfl, HBB, hzz⟩ := HZ.out.some_ hkl
        have hcz : wr.cell? ⟨b, o + k, none⟩ = some (.int .i64 (z k)) := by
          rw [HP.out.below.cell (p := ⟨b, o + k, none⟩) HBB]; exact hzz k hkl
        clear hzz HBB
        have hc0 : wr.cell? ⟨w2.heap.size, k + 1, none⟩ = some (.int .i64 (if k + 1 < k + 1 then P (k + 1) else 0 : Nat)) := (blk_cell hh _).trans (ordArr_get P P0.out _ _ (by omega))
        have hf0 : wr.frozen? ⟨w2.heap.size, k + 1, none⟩ = false := blk_frozen hh _
        have hset : Hid ((wr.setCell ⟨w2.heap.size, k + 1, none⟩ (.int .i64 (P (k + 1) : Nat))).heap[w2.heap.size]? = some (.cells (ordArr P (k + 1 + 1)) 52 (0, 0))) := (blk_set hh (k + 1) _).trans (by rw [ordArr_set P (k + 1) (by omega) (by omega)])
        have ePI := PI.out k hkl (by omega)
        have hkl' : (k : Int) < len := by omega
        have HH := Lib.hid hh
        clear hh hkl
        have HP2 := Lib.hid (HP.out.other w2.heap.size (k + 1) (.int .i64 (P (k + 1) : Nat)) hg2.out.2 hg2.out.1)
        have hv1 : (P (k + 1) : Int) < 18446744073709551616 := by omega
        have hv0 : (0 : Int) ≤ (P (k + 1) : Int) := by omega
        have e4 : (4 * ((k : Int) + 1)) = 4 * ((k + 1 : Nat) : Int) := by omega
        have HV := Lib.hid (And.intro hv0 hv1)
        have E4 := Lib.hid e4
        clear hv0 hv1 e4
        go_wp2_with fail
        refine (here_write_fix HP2.out _ _ _ HV.out.1 HV.out.2).mono ?_
        rintro e wx ⟨rfl, hh, hfx⟩
        rw [E4.out, Int.toNat_natCast, HW1.out] at hh ⊢
        have hs2 := hfx _ _ hg2.out.1 hset.out
        clear hfx
        have HHX := Lib.hid (And.intro hs2 hh)
        clear hs2 hh
        go_wp2_with fail
        go_ways
        exact ⟨⟨k + 1, by omega, by rw [Int.natCast_succ], HHX.out.1, HHX.out.2⟩, by show 8 - ((k : Int) + 1 + 1).toNat < 8 - ((k : Int) + 1).toNat; omega⟩
      · have hskip := PN.out k hkl
        have hc0 : wr.cell? ⟨w2.heap.size, k + 1, none⟩ = some (.int .i64 (P (k + 1))) := (blk_cell hh _).trans ((congrFun (congrArg _ (ordArr_skip P (k + 1) (by omega) (by omega) hskip)) _).trans ((ordArr_get P P0.out _ _ (by omega)).trans (by rw [if_pos (by omega)])))
        have hset : Hid (wr.heap[w2.heap.size]? = some (.cells (ordArr P (k + 1 + 1)) 52 (0, 0))) := hh.trans (by rw [ordArr_skip P (k + 1) (by omega) (by omega) hskip])
        have hkl' : ¬ (k : Int) + 1 ≤ len := by omega
        have HH := Lib.hid hh
        have HS := Lib.hid hskip
        clear hh hkl hskip
        have hv1 : (P (k + 1) : Int) < 18446744073709551616 := by omega
        have hv0 : (0 : Int) ≤ (P (k + 1) : Int) := by omega
        have e4 : (4 * ((k : Int) + 1)) = 4 * ((k + 1 : Nat) : Int) := by omega
        have HV := Lib.hid (And.intro hv0 hv1)
        have E4 := Lib.hid e4
        clear hv0 hv1 e4
        go_wp2_with fail
        refine (here_write_fix HP.out _ _ _ HV.out.1 HV.out.2).mono ?_
        rintro e wx ⟨rfl, hh, hfx⟩
        rw [E4.out, Int.toNat_natCast, HW1.out] at hh ⊢
        have hs2 := hfx _ _ hg2.out.1 hset.out
        clear hfx
        have HHX := Lib.hid (And.intro hs2 hh)
        clear hs2 hh
        go_wp2_with fail
        go_ways
        exact ⟨⟨k + 1, by omega, by rw [Int.natCast_succ], HHX.out.1, HHX.out.2⟩, by show 8 - ((k : Int) + 1 + 1).toNat < 8 - ((k : Int) + 1).toNat; omega⟩
    · obtain rfl : k = 7 := by omega
      have HP := Lib.hid hp
      have HH := Lib.hid hh
      clear hp hh hk7 hk
      have en64 : IntKind.u64.wrap (en : Int) = (en : Int) := by have := HEN.out; rw [IntKind.wrap_u64]; omega
      have HV := Lib.hid (show (0 : Int) ≤ (en : Int) ∧ (en : Int) < 18446744073709551616 from ⟨by omega, by have := HEN.out; omega⟩)
      go_wp2_with fail
      refine (here_write_fix HP.out 8192 4 _ HV.out.1 HV.out.2).mono ?_
      rintro e w3 ⟨rfl, hh, hfx⟩
      rw [Int.toNat_natCast, show (7 + 1 : Nat) = 8 from rfl, ordE_write P P8.out en] at hh ⊢
      have HHX := Lib.hid (And.intro (hfx _ _ hg2.out.1 HH.out) hh)
      clear hfx hh
      go_wp2_with fail
      refine (here_tick_fix HHX.out.2 _ (by omega) (by have := HLV.out; omega)).mono ?_
      rintro e w4 ⟨rfl, hh, hfx⟩
      rw [Int.toNat_natCast, ordE_tick] at hh
      have H4 := Lib.hid (And.intro (hfx _ _ hg2.out.1 HHX.out.1) hh)
      have L0 := Lib.hid (left_first P en lv PL.out HLV.out)
      have hW := cnt_le ((0 ||| andNot32 (lv &&& 254) 0) &&& and254 (lo32 en)) P 7
      have XB := Lib.hid (bits0 en lv)
      have CS := Lib.hid (cnt_step ((0 ||| andNot32 (lv &&& 254) 0) &&& and254 (lo32 en)) P)
      clear hfx hh HHX
      generalize and254 (lo32 en) = E at *
      generalize (0 ||| andNot32 (lv &&& 254) 0) = p0 at *
      generalize hWn : cnt (p0 &&& E) P 7 = Wn at *
      have HWN := Lib.hid hWn
      have HW7 := Lib.hid hW
      clear hWn hW
      go_wp2_with fail
      go_loopw [10, 11, 12] (fun i1 i2 i3 wr => ∃ (p q last lastS n : Nat), i1 = .int .i64 last ∧ i2 = .int .i64 n ∧ i3 = .int .i64 lastS ∧ Left P E en lv Wn p last lastS n ∧ wr.heap[w2.heap.size]? = some (.cells (ordArr P 8) 52 (0, 0)) ∧ PlicHere w w.heap.size (ordT P E p q) wr) (fun _ i2 _ _ => 8 - (intOf i2).toNat)
      case atStart => exact ⟨p0, 0, 8, 0, 0, rfl, rfl, rfl, L0.out, H4.out.1, H4.out.2⟩
      case round =>
        clear L0 H4
        obtain ⟨p, q, last, lastS, n, rfl, rfl, rfl, hl, hh, hp⟩ := hrel
        have HP := Lib.hid hp
        have HH := Lib.hid hh
        clear hp hh
        generalize hbb : bestTo (p &&& E) P 7 = bb
        by_cases hb0 : bb = 0
        · subst hb0
          have hdone := left_done P0.out hl hbb
          have e1 := ordE_read0 P E p q hbb
          subst hdone
          have EE := Lib.hid e1
          have BB := Lib.hid hbb
          clear e1 hbb hl
          go_wp2_with fail
          refine (here_read_fix HP.out 2097156 4).mono ?_
          rintro e wx ⟨rfl, hh, hfx⟩
          rw [EE.out] at hh ⊢
          have HX := Lib.hid (And.intro (hfx _ _ hg2.out.1 HH.out) hh)
          clear hh hfx
          go_wp2_with fail
          go_loopw [16, 17] (fun i j wr => ∃ k : Nat, k ≤ 7 ∧ i = .int .i64 (cnt (p0 &&& E) P k) ∧ j = .int .i64 (k + 1) ∧ wr.heap[w2.heap.size]? = some (.cells (ordArr P 8) 52 (0, 0)) ∧ PlicHere w w.heap.size (ordT P E p q) wr) (fun _ j _ => 8 - (intOf j).toNat)
          case atStart => exact ⟨0, by omega, rfl, rfl, HX.out.1, HX.out.2⟩
          case round =>
            clear HX
            obtain ⟨k, hk, rfl, rfl, hh, hp⟩ := hrel
            have HP3 := Lib.hid hp
            by_cases hk7 : k < 7
            · have hc0 : wr.cell? ⟨w2.heap.size, k + 1, none⟩ = some (.int .i64 (P (k + 1))) := (blk_cell hh _).trans ((ordArr_get P P0.out _ _ (by omega)).trans (by rw [if_pos (by omega)]))
              have hkk : (k : Int) < 7 := by omega
              have hcs := ord_count (p0 &&& E) en lv k P HEN.out HLV.out (XB.out (k + 1) (by omega) (by omega))
              have HH3 := Lib.hid hh
              have hcl : (cnt (p0 &&& E) P k : Int) ≤ 7 := by have := cnt_le (p0 &&& E) P k; omega
              clear hh hp hk hk7
              rcases hcs with ⟨ben, hc⟩ | ⟨ben, blv, hc⟩ | ⟨ben, blv, hpp, hc⟩ | ⟨ben, blv, hpp, hc⟩
              · skip
                have HC := Lib.hid hc
                clear hc
                go_wp2_with fail
                all_goals exact ⟨⟨k + 1, by omega, by rw [HC.out], by rw [Int.natCast_succ], HH3.out, HP3.out⟩, by show 8 - ((k : Int) + 1 + 1).toNat < 8 - ((k : Int) + 1).toNat; omega⟩
              · skip
                have HC := Lib.hid hc
                clear hc
                go_wp2_with fail
                all_goals exact ⟨⟨k + 1, by omega, by rw [HC.out], by rw [Int.natCast_succ], HH3.out, HP3.out⟩, by show 8 - ((k : Int) + 1 + 1).toNat < 8 - ((k : Int) + 1).toNat; omega⟩
              · skip
                have HC := Lib.hid hc
                clear hc
                go_wp2_with fail
                all_goals exact ⟨⟨k + 1, by omega, by rw [HC.out], by rw [Int.natCast_succ], HH3.out, HP3.out⟩, by show 8 - ((k : Int) + 1 + 1).toNat < 8 - ((k : Int) + 1).toNat; omega⟩
              · skip
                have HC := Lib.hid hc
                clear hc
                go_wp2_with fail
                all_goals exact ⟨⟨k + 1, by omega, by rw [HC.out, Int.natCast_succ], by rw [Int.natCast_succ], HH3.out, HP3.out⟩, by show 8 - ((k : Int) + 1 + 1).toNat < 8 - ((k : Int) + 1).toNat; omega⟩
            · obtain rfl : k = 7 := by omega
              clear hh hp hk7 hk
              rw [HWN.out]
              go_wp2_with fail
              refine (here_best HP3.out 0 (by omega) (by omega)).mono ?_
              rintro e wz ⟨rfl, hh⟩
              rw [show (ordT P E p q).best (0 : Int).toNat = 0 from BB.out]
              have HZ3 := Lib.hid hh
              clear hh
              go_wp2_with fail
              all_goals (refine ⟨rfl, _, (by first | rfl | exact results_none _ _ _ _ | kernel_rfl), rfl, HZ3.out.below⟩)
        · obtain ⟨b7, b1, bp, bl, bs, be, bv, bn, hnext⟩ := left_next P0.out HW7.out hl hbb hb0
          have e1 := ordE_read P E p q bb hbb hb0
          have EE := Lib.hid e1
          have NX := Lib.hid hnext
          clear e1 hbb hl hnext
          have hi0 : (0 : Int) ≤ (bb : Int) := by omega
          have hi8 : (bb : Int) < 8 := by omega
          have hi7 : ¬ (7 : Int) < (bb : Int) := by omega
          have hib : ¬ (bb : Int) = 0 := by omega
          have hpne : ¬ (P bb : Int) = 0 := by omega
          have hple : ¬ (last : Int) < (P bb : Int) := by omega
          have hcmp : (decide ((P bb : Int) = (last : Int)) && decide ((bb : Int) < (lastS : Int))) = false := by
            rw [Bool.and_eq_false_iff]
            by_cases h : P bb = last
            · right; exact decide_eq_false (by have := bs h; omega)
            · left; exact decide_eq_false (by omega)
          have hn7 : ¬ (7 : Int) < (n : Int) := by omega
          have ben : bits .and .u32 ((en : Int) / 2 ^ bb) 1 = 1 := by rw [bit32i en bb HEN.out, be]; rfl
          have blv : bits .and .u32 ((lv : Int) / 2 ^ bb) 1 = 1 := by rw [bit32i lv bb HLV.out, bv]; rfl
          have BP := Lib.hid bp
          have BN := Lib.hid bn
          have BS := Lib.hid bs
          clear bp bl bs be bv bn b1 b7 hb0
          go_wp2_with fail
          refine (here_read_fix HP.out 2097156 4).mono ?_
          rintro e wx ⟨rfl, hh, hfx⟩
          rw [EE.out] at hh ⊢
          have hrow := hfx _ _ hg2.out.1 HH.out
          have hc0 : wx.cell? ⟨w2.heap.size, bb, none⟩ = some (.int .i64 (P bb)) := (blk_cell hrow _).trans ((ordArr_get P P0.out _ _ (by omega)).trans (by rw [if_pos (by omega)]))
          have HX := Lib.hid (And.intro hrow hh)
          clear hh hfx hrow
          go_wp2_with fail
          all_goals first
            | exact ⟨⟨_, _, P bb, bb, n + 1, congrArg (Value.int .i64) (by omega), by rw [Int.natCast_succ], rfl, NX.out, HX.out.1, HX.out.2⟩, by show 8 - ((n : Int) + 1).toNat < 8 - (n : Int).toNat; have := BN.out; omega⟩
            | (exfalso; have h1 := BP.out; have h2 := BS.out; first | omega | (rename_i hx; simp only [beq_iff_eq] at hx; omega))
theorem wf_u32 {a : Int} (h : (Lit.int .u32 a).wf = true) : 0 ≤ a ∧ a ≤ 4294967295 := by simpa [Lit.wf, IntKind.min, IntKind.max, IntKind.signed, IntKind.bits] using h
theorem plic_order_walk (w : World) (a0 : Option Addr) (len0 cap0 : Nat) (z0 : Nat → Int) (b0 : ∀ i, (Lit.int .i64 (z0 i)).wf = true) (w0 : ArgRow w a0 len0 cap0 (fun i => .int .i64 (z0 i))) (m0 : cap0 * 8 ≤ 140737488351232) (a1 : Int) (w1 : (Lit.int .u32 a1).wf = true) (a2 : Int) (w2 : (Lit.int .u32 a2).wf = true) :
    Calls Try.prog 5 #[.slice a0 len0 cap0, .int .u32 a1, .int .u32 a2] w fun e w' => e = .returned (.bool true) ∧ Below w.heap.size w w' := by
  obtain ⟨n1, rfl⟩ := Int.eq_ofNat_of_zero_le (wf_u32 w1).1
  obtain ⟨n2, rfl⟩ := Int.eq_ofNat_of_zero_le (wf_u32 w2).1
  have h1 := (wf_u32 w1).2; have h2 := (wf_u32 w2).2; have hle := w0.le; have hmx := w0.max
  exact order_any a0 len0 cap0 z0 n1 n2 (by omega) (by omega) (by omega) w (w0.row.le hle)
end Go.Proofs.Ytebdbbpefmgooaa
