/- The reference memory: place, Word, Put; what is no memory. No condition. -/
import Derived.Test.YtebdbbpefmgooaaRefRead
import Derived.StillTailTactics
import Derived.BigRegion
import Derived.Deep.RegionWith
import Derived.Deep.RegionHeld3
import Derived.Deep.QuietTactic
import Derived.BigQuiet
import Derived.Deep.LoopGhost
import Derived.Deep.DeepCutAuto
import Derived.Deep.DeepFit
import Derived.Deep.DeepMust
import Derived.Handy
set_option linter.unusedVariables false
set_option linter.unusedSimpArgs false
namespace Go.Proofs.Ytebdbbpefmgooaa
open Go.RowKit

set_option maxRecDepth 100000 in
set_option maxHeartbeats 1000000 in
theorem refm_place_arg (wb : Nat) (x k : Int) (h1 : ¬ k = 1) (h2 : ¬ k = 2) (h4 : ¬ k = 4) (h8 : ¬ k = 8) (w : World) : Calls Try.prog 81 #[.pointer (some ⟨wb, 0, none⟩), .int .u64 x, .int .i64 k] w fun e w' => e = .returned (.int .i64 1) ∧ w = w' := by
  have e1 : (k != 1) = true := by simpa using h1
  have e2 : (k != 2) = true := by simpa using h2
  have e4 : (k != 4) = true := by simpa using h4
  have e8 : (k != 8) = true := by simpa using h8
  clear h1 h2 h4 h8
  go_enter Try.func81, Try.ntmps81
  go_wp2_with fail
  go_ret
  exact ⟨rfl, rfl⟩
set_option maxRecDepth 100000 in
set_option maxHeartbeats 2000000 in
theorem refm_place_1 {w : World} {B wb n : Nat} {v : Value} {c : Nat → Int × Int} {m : Nat} (h : RefRam w B wb n v c m) (n4 : (4 : Int) ≤ n) (n256 : (n : Int) ≤ 256) (x : Int) (x0 : 0 ≤ x) (x1 : x < 18446744073709551616) :
    Calls Try.prog 81 #[.pointer (some ⟨wb, 0, none⟩), .int .u64 x, .int .i64 1] w fun e w' => e = .returned (.int .i64 (mayErr n x 1)) ∧ w = w' := by
  have HM := Lib.hid (show mayErr n x 1 = if x % 1 = 0 then (if ramAll n x 1 then 0 else 6) else 5 by unfold mayErr; rw [if_pos (by omega)])
  have HA := Lib.hid (refm_in h n4 n256 x x0 x1 1 (by omega) (by omega))
  clear h x1
  generalize hR : ramAll n x 1 = R at *
  by_cases hx : x % 1 = 0
  · rw [if_pos hx] at HM
    have hxb : (x % 1 != 0) = false := by simp [hx]
    have hx := Lib.hid hx
    cases R with
    | true =>
      go_enter Try.func81, Try.ntmps81
      go_wp2_with fail
      refine HA.out.mono ?_
      rintro e w1 ⟨rfl, rfl⟩
      go_wp2_with fail
      go_ret
      exact ⟨ret_int (by rw [HM.out]; rfl), rfl⟩
    | false =>
      go_enter Try.func81, Try.ntmps81
      go_wp2_with fail
      refine HA.out.mono ?_
      rintro e w1 ⟨rfl, rfl⟩
      go_wp2_with fail
      go_ret
      exact ⟨ret_int (by rw [HM.out]; rfl), rfl⟩
  · exact absurd (show x % 1 = 0 by omega) hx
set_option maxRecDepth 100000 in
set_option maxHeartbeats 2000000 in
theorem refm_place_2 {w : World} {B wb n : Nat} {v : Value} {c : Nat → Int × Int} {m : Nat} (h : RefRam w B wb n v c m) (n4 : (4 : Int) ≤ n) (n256 : (n : Int) ≤ 256) (x : Int) (x0 : 0 ≤ x) (x1 : x < 18446744073709551616) :
    Calls Try.prog 81 #[.pointer (some ⟨wb, 0, none⟩), .int .u64 x, .int .i64 2] w fun e w' => e = .returned (.int .i64 (mayErr n x 2)) ∧ w = w' := by
  have HM := Lib.hid (show mayErr n x 2 = if x % 2 = 0 then (if ramAll n x 2 then 0 else 6) else 5 by unfold mayErr; rw [if_pos (by omega)])
  have HA := Lib.hid (refm_in h n4 n256 x x0 x1 2 (by omega) (by omega))
  clear h x1
  generalize hR : ramAll n x 2 = R at *
  by_cases hx : x % 2 = 0
  · rw [if_pos hx] at HM
    have hxb : (x % 2 != 0) = false := by simp [hx]
    have hx := Lib.hid hx
    cases R with
    | true =>
      go_enter Try.func81, Try.ntmps81
      go_wp2_with fail
      refine HA.out.mono ?_
      rintro e w1 ⟨rfl, rfl⟩
      go_wp2_with fail
      go_ret
      exact ⟨ret_int (by rw [HM.out]; rfl), rfl⟩
    | false =>
      go_enter Try.func81, Try.ntmps81
      go_wp2_with fail
      refine HA.out.mono ?_
      rintro e w1 ⟨rfl, rfl⟩
      go_wp2_with fail
      go_ret
      exact ⟨ret_int (by rw [HM.out]; rfl), rfl⟩
  · rw [if_neg hx] at HM
    have hxb : (x % 2 != 0) = true := by simpa using hx
    have hx := Lib.hid hx
    go_enter Try.func81, Try.ntmps81
    go_wp2_with fail
    go_ret
    exact ⟨ret_int (by rw [HM.out]), rfl⟩
set_option maxRecDepth 100000 in
set_option maxHeartbeats 2000000 in
theorem refm_place_4 {w : World} {B wb n : Nat} {v : Value} {c : Nat → Int × Int} {m : Nat} (h : RefRam w B wb n v c m) (n4 : (4 : Int) ≤ n) (n256 : (n : Int) ≤ 256) (x : Int) (x0 : 0 ≤ x) (x1 : x < 18446744073709551616) :
    Calls Try.prog 81 #[.pointer (some ⟨wb, 0, none⟩), .int .u64 x, .int .i64 4] w fun e w' => e = .returned (.int .i64 (mayErr n x 4)) ∧ w = w' := by
  have HM := Lib.hid (show mayErr n x 4 = if x % 4 = 0 then (if ramAll n x 4 then 0 else 6) else 5 by unfold mayErr; rw [if_pos (by omega)])
  have HA := Lib.hid (refm_in h n4 n256 x x0 x1 4 (by omega) (by omega))
  clear h x1
  generalize hR : ramAll n x 4 = R at *
  by_cases hx : x % 4 = 0
  · rw [if_pos hx] at HM
    have hxb : (x % 4 != 0) = false := by simp [hx]
    have hx := Lib.hid hx
    cases R with
    | true =>
      go_enter Try.func81, Try.ntmps81
      go_wp2_with fail
      refine HA.out.mono ?_
      rintro e w1 ⟨rfl, rfl⟩
      go_wp2_with fail
      go_ret
      exact ⟨ret_int (by rw [HM.out]; rfl), rfl⟩
    | false =>
      go_enter Try.func81, Try.ntmps81
      go_wp2_with fail
      refine HA.out.mono ?_
      rintro e w1 ⟨rfl, rfl⟩
      go_wp2_with fail
      go_ret
      exact ⟨ret_int (by rw [HM.out]; rfl), rfl⟩
  · rw [if_neg hx] at HM
    have hxb : (x % 4 != 0) = true := by simpa using hx
    have hx := Lib.hid hx
    go_enter Try.func81, Try.ntmps81
    go_wp2_with fail
    go_ret
    exact ⟨ret_int (by rw [HM.out]), rfl⟩
set_option maxRecDepth 100000 in
set_option maxHeartbeats 2000000 in
theorem refm_place_8 {w : World} {B wb n : Nat} {v : Value} {c : Nat → Int × Int} {m : Nat} (h : RefRam w B wb n v c m) (n4 : (4 : Int) ≤ n) (n256 : (n : Int) ≤ 256) (x : Int) (x0 : 0 ≤ x) (x1 : x < 18446744073709551616) :
    Calls Try.prog 81 #[.pointer (some ⟨wb, 0, none⟩), .int .u64 x, .int .i64 8] w fun e w' => e = .returned (.int .i64 (mayErr n x 8)) ∧ w = w' := by
  have HM := Lib.hid (show mayErr n x 8 = if x % 8 = 0 then (if ramAll n x 8 then 0 else 6) else 5 by unfold mayErr; rw [if_pos (by omega)])
  have HA := Lib.hid (refm_in h n4 n256 x x0 x1 8 (by omega) (by omega))
  clear h x1
  generalize hR : ramAll n x 8 = R at *
  by_cases hx : x % 8 = 0
  · rw [if_pos hx] at HM
    have hxb : (x % 8 != 0) = false := by simp [hx]
    have hx := Lib.hid hx
    cases R with
    | true =>
      go_enter Try.func81, Try.ntmps81
      go_wp2_with fail
      refine HA.out.mono ?_
      rintro e w1 ⟨rfl, rfl⟩
      go_wp2_with fail
      go_ret
      exact ⟨ret_int (by rw [HM.out]; rfl), rfl⟩
    | false =>
      go_enter Try.func81, Try.ntmps81
      go_wp2_with fail
      refine HA.out.mono ?_
      rintro e w1 ⟨rfl, rfl⟩
      go_wp2_with fail
      go_ret
      exact ⟨ret_int (by rw [HM.out]; rfl), rfl⟩
  · rw [if_neg hx] at HM
    have hxb : (x % 8 != 0) = true := by simpa using hx
    have hx := Lib.hid hx
    go_enter Try.func81, Try.ntmps81
    go_wp2_with fail
    go_ret
    exact ⟨ret_int (by rw [HM.out]), rfl⟩
theorem refm_place {w : World} {B wb n : Nat} {v : Value} {c : Nat → Int × Int} {m : Nat} (h : RefRam w B wb n v c m) (n4 : (4 : Int) ≤ n) (n256 : (n : Int) ≤ 256) (x : Int) (x0 : 0 ≤ x) (x1 : x < 18446744073709551616) (k : Int) :
    Calls Try.prog 81 #[.pointer (some ⟨wb, 0, none⟩), .int .u64 x, .int .i64 k] w fun e w' => e = .returned (.int .i64 (mayErr n x k)) ∧ w = w' := by
  by_cases h1 : k = 1
  · subst h1; exact refm_place_1 h n4 n256 x x0 x1
  by_cases h2 : k = 2
  · subst h2; exact refm_place_2 h n4 n256 x x0 x1
  by_cases h4 : k = 4
  · subst h4; exact refm_place_4 h n4 n256 x x0 x1
  by_cases h8 : k = 8
  · subst h8; exact refm_place_8 h n4 n256 x x0 x1
  have e : mayErr n x k = 1 := by unfold mayErr; rw [if_neg (by omega)]
  rw [e]
  exact refm_place_arg wb x k h1 h2 h4 h8 w
set_option maxRecDepth 100000 in
set_option maxHeartbeats 1000000 in
theorem refm_some_bus {w : World} {B wb n : Nat} {v : Value} {c : Nat → Int × Int} {m : Nat} (h : RefRam w B wb n v c m) (n4 : (4 : Int) ≤ n) (n256 : (n : Int) ≤ 256) (x : Int) (x0 : 0 ≤ x) (x1 : x < 18446744073709551616) (a a2 : Option Addr) (k cc m2 c2 : Nat) (all : Bool) (hk : (k : Int) < 9223372036854775808) (ha : ramAll n x k = false) :
    Calls Try.prog 68 #[.pointer (some ⟨wb, 0, none⟩), .int .u64 x, .slice a k cc, .slice a2 m2 c2, .bool all] w fun e w' => e = .returned (.int .i64 6) ∧ w = w' := by
  have HA := Lib.hid (refm_in h n4 n256 x x0 x1 k (by omega) hk)
  rw [ha] at HA
  clear h ha x0 x1
  go_enter Try.func68, Try.ntmps68
  go_wp2_with fail
  refine HA.out.mono ?_
  rintro e w1 ⟨rfl, rfl⟩
  go_wp2_with fail
  go_ret
  exact ⟨rfl, rfl⟩
set_option maxRecDepth 100000 in
set_option maxHeartbeats 1000000 in
theorem refm_word_err {w : World} {B wb n : Nat} {v : Value} {c : Nat → Int × Int} {m : Nat} (h : RefRam w B wb n v c m) (n4 : (4 : Int) ≤ n) (n256 : (n : Int) ≤ 256) (x : Int) (x0 : 0 ≤ x) (x1 : x < 18446744073709551616) (k : Int) (hm : mayErr n x k ≠ 0) :
    Calls Try.prog 72 #[.pointer (some ⟨wb, 0, none⟩), .int .u64 x, .int .i64 k] w (WordOr w · · (mayErr n x k) 0) := by
  have HM := Lib.hid (refm_place h n4 n256 x x0 x1 k)
  have HB := Lib.hid (Below.refl w.heap.size w)
  generalize mayErr n x k = E at *
  have he : (E != 0) = true := by simpa using hm
  clear h x0 x1 hm
  go_enter Try.func72, Try.ntmps72
  go_wp2_with fail
  refine HM.out.mono ?_
  rintro e w1 ⟨rfl, rfl⟩
  go_wp2_with fail
  go_ret2
  exact ⟨rfl, HB.out⟩
theorem readR_bd {f : Int → Int} (hf : ∀ y, 0 ≤ f y ∧ f y ≤ 255) (x : Int) (k : Nat) : ∀ z ∈ readR f x k, 0 ≤ z ∧ z ≤ 255 := by
  intro z hz
  simp only [readR, List.mem_map] at hz
  obtain ⟨i, _, rfl⟩ := hz
  exact hf _
theorem readR_getD (f : Int → Int) (x : Int) (k i : Nat) (h : i < k) : (readR f x k).getD i 0 = f (x + i) := by simp [readR, List.getD, h]
/-- the word that is read -/
def wordR (f : Int → Int) (x : Int) (k : Nat) : Nat := wordN (fun i => (f (x + i)).toNat) k
set_option maxRecDepth 100000 in
set_option maxHeartbeats 1000000 in
theorem refm_word_ok {w : World} {B wb n : Nat} {v : Value} {c : Nat → Int × Int} {m : Nat} (h : RefRam w B wb n v c m) (n4 : (4 : Int) ≤ n) (n256 : (n : Int) ≤ 256) (x : Int) (x0 : 0 ≤ x) (x1 : x < 18446744073709551616) (k : Int) (hm : mayErr n x k = 0) :
    Calls Try.prog 72 #[.pointer (some ⟨wb, 0, none⟩), .int .u64 x, .int .i64 k] w (WordOr w · · 0 (wordR (fun y => lkTo c y m) x k.toNat)) := by
  have HM := Lib.hid (refm_place h n4 n256 x x0 x1 k)
  obtain ⟨hk, _, ha⟩ := mayErr_0 hm
  rw [hm] at HM
  obtain ⟨q, rfl⟩ := Int.eq_ofNat_of_zero_le (show 0 ≤ k by omega)
  have hq8 : (q : Int) ≤ 8 := by omega
  have HR := Lib.hid (refm_read_ok h n4 n256 x x0 x1 q (by omega) ha)
  have HBD := Lib.hid (readR_bd (f := fun y => lkTo c y m) (fun y => lkTo_bd y m h.bd) x q)
  have HWD : Hid (wordN (fun i => ((readR (fun y => lkTo c y m) x q).getD i 0).toNat) q = wordR (fun y => lkTo c y m) x q) := by
    show _ = _
    exact wordN_congr q fun i hi => by rw [readR_getD _ _ _ _ hi]
  clear h hk ha x0 x1 hm
  rw [Int.toNat_natCast]
  generalize readR (fun y => lkTo c y m) x q = L at *
  generalize wordR (fun y => lkTo c y m) x q = V at *
  go_enter Try.func72, Try.ntmps72
  go_wp2_with fail
  refine HM.out.mono ?_
  rintro e w1 ⟨rfl, rfl⟩
  go_wp2_with fail
  refine HR.out.mono ?_
  rintro e w2 ⟨vv, rfl, hown, hb⟩
  obtain ⟨a, cc, rfl, hib⟩ := bytes_own hown HBD.out
  have HB2 := Lib.hid hb
  have HIB := Lib.hid hib
  clear hb hown hib
  go_wp2_with fail
  refine (ref_word a q cc L _ HIB.out hq8).mono ?_
  rintro e w3 ⟨rfl, rfl⟩
  rw [HWD.out]
  go_wp2_with fail
  go_ret2
  exact ⟨rfl, HB2.out⟩
set_option maxRecDepth 100000 in
set_option maxHeartbeats 1000000 in
theorem refm_put_err {w : World} {B wb n : Nat} {v : Value} {c : Nat → Int × Int} {m : Nat} (h : RefRam w B wb n v c m) (n4 : (4 : Int) ≤ n) (n256 : (n : Int) ≤ 256) (x : Int) (x0 : 0 ≤ x) (x1 : x < 18446744073709551616) (k u : Int) (hm : mayErr n x k ≠ 0) :
    Calls Try.prog 70 #[.pointer (some ⟨wb, 0, none⟩), .int .u64 x, .int .i64 k, .int .u64 u] w fun e w' => e = .returned (.int .i64 (mayErr n x k)) ∧ w = w' := by
  have HM := Lib.hid (refm_place h n4 n256 x x0 x1 k)
  generalize mayErr n x k = E at *
  have he : (E != 0) = true := by simpa using hm
  clear h x0 x1 hm
  go_enter Try.func70, Try.ntmps70
  go_wp2_with fail
  refine HM.out.mono ?_
  rintro e w1 ⟨rfl, rfl⟩
  go_wp2_with fail
  go_ret
  exact ⟨rfl, rfl⟩
theorem RefTo.from_below {w w1 w' : World} {B wb n : Nat} {v : Value} {f : Int → Int} {most : Nat} (hb : Below w.heap.size w w1) (h : RefTo w1 w' B wb n v f most) : RefTo w w' B wb n v f most := by
  obtain ⟨v', c, m, h1, h2, h3, h4, h5⟩ := h
  refine ⟨v', c, m, h1, h2, h3, (Turned.of_below hb _).trans h4 (fun g hg => .inl hg), fun g hg => ?_⟩
  rcases h5 g hg with h | h
  · exact .inl h
  · have := hb.size; right; omega
theorem RefTo.congr {w w' : World} {B wb n : Nat} {v : Value} {f f' : Int → Int} {most : Nat} (h : RefTo w w' B wb n v f most) (hf : ∀ y, f y = f' y) : RefTo w w' B wb n v f' most := by
  obtain rfl : f = f' := funext hf
  exact h
set_option maxRecDepth 100000 in
set_option maxHeartbeats 2000000 in
theorem refm_put_ok {w : World} {B wb n : Nat} {v : Value} {c : Nat → Int × Int} {m : Nat} (h : RefRam w B wb n v c m) (n4 : (4 : Int) ≤ n) (n256 : (n : Int) ≤ 256) (x : Int) (x0 : 0 ≤ x) (x1 : x < 18446744073709551616) (k : Int) (u : Nat) (hu : u < 2 ^ 64) (hm : mayErr n x k = 0) (hmx : (m : Int) + 8 ≤ 100000000) (hB : B ≤ w.heap.size) (hvw : v.ownBlock ≠ some wb) :
    Calls Try.prog 70 #[.pointer (some ⟨wb, 0, none⟩), .int .u64 x, .int .i64 k, .int .u64 u] w fun e w' => e = .returned (.int .i64 0) ∧ RefTo w w' B wb n v (putR (fun y => lkTo c y m) x (fun i => (numBytes u k.toNat).getD i 0) (fun _ => true) k.toNat) (m + k.toNat) := by
  have HM := Lib.hid (refm_place h n4 n256 x x0 x1 k)
  obtain ⟨hk, _, ha⟩ := mayErr_0 hm
  rw [hm] at HM
  obtain ⟨q, rfl⟩ := Int.eq_ofNat_of_zero_le (show 0 ≤ k by omega)
  have hq8 : (q : Int) ≤ 8 := by omega
  have H := Lib.hid h
  have HA := Lib.hid ha
  have HX := Lib.hid (And.intro x0 x1)
  have HU := Lib.hid hu
  have HMX := Lib.hid hmx
  have HBB := Lib.hid hB
  have HVW := Lib.hid hvw
  have HOLD := Lib.hid (show ∀ g, (g = wb ∨ v.ownBlock = some g) → g < w.heap.size from fun g hg => by
    rcases hg with rfl | hg
    · exact blk_lt h.at_
    · exact (h.own.lt g hg).2)
  clear h hk ha x0 x1 hm hu hmx hB hvw
  rw [Int.toNat_natCast]
  go_enter Try.func70, Try.ntmps70
  go_wp2_with fail
  refine HM.out.mono ?_
  rintro e w1 ⟨rfl, rfl⟩
  clear HM
  go_wp2_with fail
  refine (ref_bytes u HU.out q hq8 _).mono ?_
  rintro e w2 ⟨s, rfl, hown, hb⟩
  obtain ⟨a, cc, rfl, hib⟩ := bytes_own hown (numBytes_bd _ _)
  have HAP : Hid (Apart (fun g => g = wb ∨ v.ownBlock = some g) a) := by
    rintro b' o s' rfl hS
    have h1 := HOLD.out b' hS
    rcases hown.2 with ⟨h, _⟩ | ⟨g, cap, cur, h, hg, _⟩
    · cases h
    · injection h with h
      injection h with h
      injection h with h
      omega
  have HROW : Hid (IsRow w2 a q (fun i => .int .u8 ((numBytes u q).getD i 0))) := by
    intro h0
    rcases hib.cell with ⟨_, h1⟩ | ⟨b', o, h1, h2⟩
    · omega
    · exact ⟨b', o, h1, World.block_lt_of_cell? _ _ (h2 0 h0), h2⟩
  have HLB : Hid (∀ i, 0 ≤ (numBytes u q).getD i 0 ∧ (numBytes u q).getD i 0 ≤ 255) := fun i => by
    by_cases hi : i < q
    · rw [numBytes_getD _ _ _ hi]; omega
    · have : (numBytes u q).length ≤ i := by rw [numBytes_len]; omega
      simp [List.getD, List.getElem?_eq_none this]
  have HB2 := Lib.hid hb
  clear hb hown hib
  go_wp2_with fail
  refine (refm_some_all (H.out.below HB2.out) n4 n256 x HX.out.1 HX.out.2 a none q cc 0 0 (by omega) _ HROW.out HLB.out (fun _ => HAP.out) (by have := HMX.out; omega) HA.out (Nat.le_trans HBB.out HB2.out.size) HVW.out).mono ?_
  rintro e w3 ⟨rfl, hh⟩
  have HF := Lib.hid (hh.from_below HB2.out)
  clear hh
  go_wp2_with fail
  go_ret
  exact ⟨rfl, HF.out⟩
end Go.Proofs.Ytebdbbpefmgooaa
