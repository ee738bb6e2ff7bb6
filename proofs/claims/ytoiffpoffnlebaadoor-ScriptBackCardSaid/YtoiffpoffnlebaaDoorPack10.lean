/- Contract of script.Encode. No condition. A slice of structs of four numbers that came in: its cells. No condition. api.Setup that came in by value, and a row of api.Input: their shapes. No condition. -/
import Derived.Test.YtoiffpoffnlebaaDoorPack9
import Derived.Test.YtoiffpoffnlebaaDoorPack1
import Derived.IntWalk
import Derived.Deep.Slices
import Derived.Deep.Fields
import Derived.Deep.MidRow
import Derived.Lib.SmallJoins
import Derived.ProofKit
import Derived.OpenShut
import Derived.ChangeOld
section
set_option linter.unusedVariables false
set_option linter.unusedSimpArgs false
namespace Go.Proofs.YtoiffpoffnlebaaDoor
open Go.RowKit
set_option maxRecDepth 100000
theorem own_src {w : World} {base : Nat} {e : TypeId} {ad : Option Addr} {n c : Nat} {xs : List Value} (h : w.ownsRow base e 1 (.slice ad n c) n xs) : SrcIs w ad n xs := by
  refine ⟨by have := h.1; omega, ?_⟩
  rcases h.2 with ⟨h1, h2⟩ | ⟨g, cap, cur, h1, _, hg, hn, hm, hs, ht⟩
  · cases h1; exact .inl ⟨rfl, h2⟩
  · cases h1
    refine .inr ⟨g, 0, rfl, fun i hi => ?_⟩
    rw [Nat.zero_add, blk_cell hg, ← ht, List.getElem?_take_of_lt (by omega), Array.getElem?_toList]
/-- what Encode answers -/
def EncIs (w : World) (tk : Bool) (bs : List Int) (e : Ending) (w' : World) : Prop :=
  Below w.heap.size w w' ∧ (tk = false → e = .returned (.tuple #[.slice none 0 0, .int .i64 1])) ∧
  (tk = true → ∃ v, e = .returned (.tuple #[v, .int .i64 0]) ∧ w'.ownsRow w.heap.size 5 1 v bs.length (bs.map (Value.int .u8)))
set_option maxHeartbeats 8000000 in
theorem scr_encode_head (pages most : Int) (hpm : -9223372036854775808 ≤ pages ∧ pages ≤ 9223372036854775807) (seed : Nat) (a1 a2 : Option Addr) (m c1 n c2 : Nat) (w : World) (bs : List Int) (hh : headOk pages most m n = false) :
    Calls Tryd.prog 12 #[.agg #[.int .i64 pages, .int .i64 most, .int .u64 seed], .slice a1 m c1, .slice a2 n c2] w (EncIs w false bs) := by
  have HB := Lib.hid (fun o => (Below.refl w.heap.size w).alloc (Nat.le_refl _) o)
  have HO2 := Lib.hid (of_decide_eq_false hh)
  clear hh
  by_cases hp : 4 ≤ pages
  · by_cases hp2 : pages ≤ 16
    all_goals
      have hw : IntKind.i64.wrap (pages - 4) = pages - 4 := IntWalk.i64_in _ (by omega)
      go_enter Tryd.func12, Tryd.ntmps12
      go_wp2_with fail
      all_goals
        have := HO2.out
        clear hw
        first
        | (go_ret2; exact ⟨HB.out _, fun _ => rfl, fun h => (nomatch h)⟩)
        | (exfalso; omega)
  · go_enter Tryd.func12, Tryd.ntmps12
    go_wp2_with fail
    all_goals
      have := HO2.out
      first
      | (go_ret2; exact ⟨HB.out _, fun _ => rfl, fun h => (nomatch h)⟩)
      | (exfalso; omega)
/-- ahead of the inputs -/
def encHead (pages most : Int) (seed : Nat) (img : List Int) : List Int := [pages - 4, most] ++ (numBytes seed 8 ++ (numBytes img.length 2 ++ img))
theorem encOf_head (pages most : Int) (seed : Nat) (img : List Int) (l : List Inp) : encOf pages most seed img l = encHead pages most seed img ++ l.flatMap encInp := by simp [encOf, encHead]
theorem src_new (w : World) (vs : List Value) (T : TypeId) (n : Nat) (hn : vs.length = n) : SrcIs (w.alloc (.cells vs.toArray T)) (some ⟨w.heap.size, 0, none⟩) n vs :=
  ⟨hn, .inr ⟨w.heap.size, 0, rfl, fun i hi => by rw [blk_cell (blk_alloc _ _)]; simp⟩⟩
theorem take_enc {l : List Inp} {k : Nat} (hk : k < l.length) : (l.take (k + 1)).flatMap encInp = (l.take k).flatMap encInp ++ encInp l[k] := by
  rw [List.take_succ_eq_append_getElem hk, List.flatMap_append]
  simp
theorem isB_old {w w' : World} {a : Option Addr} {n : Nat} {l : List Int} (h : IsB w a n l) (hl : ∀ b o s, a = some ⟨b, o, s⟩ → b < w.heap.size) (hb : Below w.heap.size w w') : IsB w' a n l :=
  ⟨h.hlen, h.bd, h.cell.imp id fun ⟨b, o, e, hc⟩ => ⟨b, o, e, fun i hi => (hb.cell (p := ⟨b, o + i, none⟩) (hl b o none e)).trans (hc i hi)⟩⟩
theorem isB_src {w : World} {a : Option Addr} {n : Nat} {l : List Int} (h : IsB w a n l) : SrcIs w a n (l.map (Value.int .u8)) := by
  refine ⟨by rw [List.length_map]; exact h.hlen, h.cell.imp id ?_⟩
  rintro ⟨b, o, rfl, hc⟩
  refine ⟨b, o, rfl, fun i hi => ?_⟩
  have hl := h.hlen
  rw [hc i hi]
  simp [List.getD, hl, hi]
theorem one_u8 (l : List Int) : ∀ u ∈ l.map (Value.int .u8), u.oneCell' = true := by intro u hu; simp at hu; obtain ⟨_, _, rfl⟩ := hu; rfl
set_option maxHeartbeats 16000000 in
theorem scr_encode_yes (pages most : Int) (seed : Nat) (a1 a2 : Option Addr) (m c1 n c2 : Nat) (img : List Int) (l : List Inp) (hl : l.length = n) (w : World) (hb : IsB w a1 m img) (hlt : ∀ b o s, a1 = some ⟨b, o, s⟩ → b < w.heap.size) (hr : InpRow w a2 l) (hln : ∀ x ∈ l, -9223372036854775808 ≤ x.lines ∧ x.lines ≤ 9223372036854775807) (hh : headOk pages most m n = true) :
    Calls Tryd.prog 12 #[.agg #[.int .i64 pages, .int .i64 most, .int .u64 seed], .slice a1 m c1, .slice a2 n c2] w (EncIs w (l.all okInp) (encOf pages most seed img l)) := by
  obtain ⟨t1, t2, t3, t4, t5, t6⟩ := of_decide_eq_true hh
  have HI := Lib.hid hb
  have HLT := Lib.hid hlt
  have HR := Lib.hid hr
  have HL := Lib.hid hl
  have HLN := Lib.hid hln
  clear hh hb hlt hr hl hln
  go_enter Tryd.func12, Tryd.ntmps12
  go_wp2_with fail
  obtain ⟨w1, hw1⟩ : ∃ w1, w1 = (w.alloc (.cells #[Value.int .i64 pages, Value.int .i64 most, Value.int .u64 (seed : Nat)] 26)).alloc (.cells #[Value.int .u8 (pages - 4), Value.int .u8 most] 5) := ⟨_, rfl⟩
  have B1 : Hid (Below w.heap.size w w1) := by rw [hw1]; exact ((Below.refl _ _).alloc (Nat.le_refl _) _).alloc (by simp) _
  have O1 : Hid (w1.ownsRow w.heap.size 5 1 (.slice (some ⟨w.heap.size + 1, 0, none⟩) 2 2) 2 [Value.int .u8 (pages - 4), Value.int .u8 most]) := by
    have hblk := blk_alloc (w.alloc (.cells #[Value.int .i64 pages, Value.int .i64 most, Value.int .u64 (seed : Nat)] 26)) (.cells #[Value.int .u8 (pages - 4), Value.int .u8 most] 5)
    rw [hw1]
    refine ⟨rfl, .inr ⟨w.heap.size + 1, 2, _, rfl, by omega, by simpa using hblk, by omega, by unfold maxLen; omega, rfl, rfl⟩⟩
  rw [← hw1]
  clear hw1
  refine (bits_bytes seed 8 (by omega) w1).mono ?_
  rintro e w2 ⟨v2, rfl, hv2, hb2⟩
  obtain ⟨ad2, c2', rfl⟩ := own_slice hv2
  have B2 := Lib.hid (B1.out.trans (hb2.mono B1.out.size))
  have O2 := Lib.hid (own_below O1.out hb2)
  have S2 := Lib.hid (own_src hv2)
  have one2 := Lib.hid (one_u8 (numBytes seed 8))
  have Z2 := Lib.hid (B2.out.size)
  clear hv2 hb2 O1 B1
  clear w1
  go_wp2_with (at_builtin; refine wpList_app rfl _ _ 22 rfl w.heap.size 5 (.int .u8 0) 1 Tryd.underlying22 A_info5 rfl _ 2 _ rfl O2.out ad2 8 c2' _ rfl S2.out one2.out (by omega) (by unfold maxLen; omega) Z2.out ?_; intro v3 w3 hown hg _; have O3 := Lib.hid hown; have B3 := Lib.hid (own_base O2.out hg B2.out Z2.out (Nat.le_refl _)); clear hown hg)
  refine (bits_bytes m 2 (by omega) w3).mono ?_
  rintro e w4 ⟨v4, rfl, hv4, hb4⟩
  obtain ⟨ad4, c4', rfl⟩ := own_slice hv4
  have B4 := Lib.hid (B3.out.trans (hb4.mono B3.out.size))
  have O4 := Lib.hid (own_below O3.out hb4)
  have S4 := Lib.hid (own_src hv4)
  have one4 := Lib.hid (one_u8 (numBytes m 2))
  have Z4 := Lib.hid (B4.out.size)
  clear hv4 hb4 O3 B3 O2 S2 one2 Z2 B2
  clear w2 w3
  go_upto_region 7 with (at_builtin; refine wpList_app rfl _ _ 22 rfl w.heap.size 5 (.int .u8 0) 1 Tryd.underlying22 A_info5 rfl v3 (2 + 8) _ rfl O4.out ad4 2 c4' _ rfl S4.out one4.out (by omega) (by unfold maxLen; omega) Z4.out ?_; intro v5 w5 hown hg _; have O5 := Lib.hid hown; have B5 := Lib.hid (own_base O4.out hg B4.out Z4.out (Nat.le_refl _)); clear hown hg)
  have I5 := Lib.hid (isB_src (isB_old HI.out HLT.out B5.out))
  have one5 := Lib.hid (one_u8 img)
  have Z5 := Lib.hid B5.out.size
  clear O4 S4 one4 Z4 B4
  go_upto_region 8 with (at_builtin; refine wpList_app rfl _ _ 22 rfl w.heap.size 5 (.int .u8 0) 1 Tryd.underlying22 A_info5 rfl v5 (2 + 8 + 2) _ rfl O5.out a1 m c1 _ rfl I5.out one5.out (by omega) (by unfold maxLen; omega) Z5.out ?_; intro v6 w6 hown hg _; have O6 := Lib.hid hown; have B6 := Lib.hid (own_base O5.out hg B5.out Z5.out (Nat.le_refl _)); clear hown hg)
  clear O5 I5 one5 Z5 B5
  have HM := Lib.hid HI.out.hlen
  have OH := Lib.hid (show w6.ownsRow w.heap.size 5 1 v6 (12 + m) ((encHead pages most seed img).map (Value.int .u8)) by
    have := O6.out
    unfold encHead
    rw [HM.out]
    have e : 2 + 8 + 2 + m = 12 + m := by omega
    rw [e] at this
    simpa using this)
  clear O6
  go_wp2_with fail
  go_loopw [9, 65] (fun v i wr => ∃ k : Nat, (k : Int) ≤ n ∧ i = .int .i64 k ∧ Hid (∀ j (hj : j < l.length), j < k → okInp l[j] = true) ∧ Hid (wr.ownsRow w.heap.size 5 1 v (12 + m + 3 * k) ((encHead pages most seed img ++ (l.take k).flatMap encInp).map (Value.int .u8))) ∧ Below w.heap.size w wr) (fun _ i _ => n - (intOf i).toNat)
  case atStart => exact ⟨0, by omega, rfl, (fun j _ h => absurd h (by omega)), Lib.hid (by have := OH.out; simpa using this), B6.out⟩
  case round =>
    obtain ⟨k, hk, rfl, HK, HO, hB⟩ := hrel
    have B0 := Lib.hid hB
    clear hB OH B6
    by_cases hlt : (k : Int) < n
    · have hkl : k < l.length := by have := HL.out; omega
      obtain ⟨b, o, rfl, hlb, hc⟩ := HR.out (by omega)
      have hc := hc k hkl
      have e1 : wr.rangeAt b (o + k * 4) (l[k]).vals := fun j v hv => (B0.out.cell (p := ⟨b, o + k * 4 + j, none⟩) hlb).trans (hc j v hv)
      have HX : Hid (okInp l[k] = false → l.all okInp = false) := fun h => all_at hkl h
      have HY : Hid (okInp l[k] = true → ∀ j (hj : j < l.length), j < k + 1 → okInp l[j] = true) := fun h j hj hjk => by
        by_cases e : j = k
        · subst e; exact h
        · exact HK.out j hj (by omega)
      have HT := Lib.hid (take_enc hkl)
      have HXL := Lib.hid (HLN.out l[k] (List.getElem_mem hkl))
      have i0 : wr.cell? ⟨b, o + k * 4, none⟩ = some (.int .i64 (l[k]).lines) := e1 0 _ rfl
      have i1 : wr.cell? ⟨b, o + k * 4 + 1, none⟩ = some (.int .i64 (l[k]).rx) := e1 1 _ rfl
      have i2 : wr.cell? ⟨b, o + k * 4 + 1 + 1, none⟩ = some (.int .i64 (l[k]).delay) := e1 2 _ rfl
      have i3 : wr.cell? ⟨b, o + k * 4 + 1 + 1 + 1, none⟩ = some (.int .i64 (l[k]).pick) := e1 3 _ rfl
      clear e1 hc hk hlb
      generalize hx : l[k] = x at HX HY HT HXL i0 i1 i2 i3
      clear hx
      have HMI := Lib.hid (fun wq => may_input x wq)
      go_wp2_with fail
      obtain ⟨w6', hw6⟩ : ∃ w6', w6' = wr.alloc (.cells #[.int .i64 x.lines, .int .i64 x.rx, .int .i64 x.delay, .int .i64 x.pick] 34) := ⟨_, rfl⟩
      have D6 : Hid (w6'.heap[wr.heap.size]? = some (.cells #[.int .i64 x.lines, .int .i64 x.rx, .int .i64 x.delay, .int .i64 x.pick] 34 (0, 0))) := by rw [hw6]; exact blk_alloc _ _
      have E6 : Hid (Below wr.heap.size wr w6') := by rw [hw6]; exact (Below.refl _ _).alloc (Nat.le_refl _) _
      rw [← hw6]
      clear hw6 i0 i1 i2 i3
      refine (HMI.out _).mono ?_
      rintro e w7 ⟨rfl, hb7⟩
      have D7 := (hb7.block _ (blk_lt D6.out)).trans D6.out
      have E7 := Lib.hid (E6.out.trans (hb7.mono E6.out.size))
      have O7 := Lib.hid (own_below HO.out E7.out)
      have B7 := Lib.hid (B0.out.trans (E7.out.mono B0.out.size))
      have j0 := blk_cell D7 0; have j1 := blk_cell D7 1; have j2 := blk_cell D7 2; have j3 := blk_cell D7 3
      simp at j0 j1 j2 j3
      clear hb7 D6 E6 HO B0 D7
      cases hok : okInp x with
      | false =>
        have HF := Lib.hid (HX.out hok)
        clear HX HY HT HK hok
        go_wp2_with fail
        go_ret2
        exact ⟨B7.out, fun _ => rfl, fun h => by rw [HF.out] at h; cases h⟩
      | true =>
        obtain ⟨nl, rr, d, q, f1, f2, f3, f4, f5, f6, f7, f8, f9⟩ := okInp_iff HXL.out.1 HXL.out.2 hok
        have HK2 := Lib.hid (HY.out hok)
        rcases f4 with ⟨hrx, _⟩ | hrx
        · have hor : True := trivial
          have hq1 : (2 * (d : Int)) / 2 = d := by omega
          have g1 : (nl : Int) ≤ 126 := by omega
          have g2 : (d : Int) ≤ 15 := by omega
          have g3 : (q : Int) ≤ 15 := by omega
          have g4 : (rr : Int) ≤ 255 := by omega
          have hone : Hid (∀ u ∈ [Value.int .u8 ((nl : Nat)), Value.int .u8 (0), Value.int .u8 ((d : Int) + 16 * q)], u.oneCell' = true) := by intro u hu; simp at hu; rcases hu with rfl | rfl | rfl <;> rfl
          have HE := Lib.hid (show encInp x = [((nl : Nat) : Int), (0 : Int), (d : Int) + 16 * q] by unfold encInp; rw [f1, hrx, f6, f8]; simp; try omega)
          rw [f1] at j0; rw [hrx] at j1; rw [f6] at j2; rw [f8] at j3
          have hz7 : Hid (w.heap.size ≤ (w7.alloc (.cells #[Value.int .u8 ((nl : Nat)), Value.int .u8 (0), Value.int .u8 ((d : Int) + 16 * q)] 5)).heap.size) := by have := B7.out.size; show _ ≤ _; simp; omega
          have hbd := Lib.hid (show (12 + m + 3 * k + 3) * 1 ≤ 140737488355328 by omega)
          have hbd2 := Lib.hid (show 12 + m + 3 * k + 3 ≤ maxLen by unfold maxLen; omega)
          clear f1 f2 f3 f5 f6 f7 f8 f9 hrx hok HX HY HK
          go_wp2_with (at_builtin; refine wpList_app rfl _ _ 22 rfl w.heap.size 5 (.int .u8 0) 1 Tryd.underlying22 A_info5 rfl _ (12 + m + 3 * k) _ rfl (O7.out.alloc _) (some ⟨w7.heap.size, 0, none⟩) 3 3 [Value.int .u8 ((nl : Nat)), Value.int .u8 (0), Value.int .u8 ((d : Int) + 16 * q)] rfl (src_new w7 _ 5 3 rfl) hone.out hbd.out hbd2.out hz7.out ?_; intro v8 w8 hown hg _; have O8 := Lib.hid hown; have B8 := Lib.hid (own_base (O7.out.alloc _) hg (B7.out.alloc B7.out.size _) hz7.out (Nat.le_refl _)); clear hown hg)
          go_roundw
          case rel =>
            refine ⟨k + 1, by omega, by rw [Int.natCast_succ], HK2, Lib.hid ?_, B8.out⟩
            have := O8.out
            rw [HT.out, HE.out]
            have e : 12 + m + 3 * k + 3 = 12 + m + 3 * (k + 1) := by omega
            rw [e] at this
            simpa using this
          case measure => simp [intOf]; omega
        · have hor : bits .or .u8 (nl : Int) 1 = ((nl ||| 1 : Nat) : Int) := u8_or_nat nl 1 (by omega) (by omega)
          have hq1 : (2 * (d : Int)) / 2 = d := by omega
          have g1 : (nl : Int) ≤ 126 := by omega
          have g2 : (d : Int) ≤ 15 := by omega
          have g3 : (q : Int) ≤ 15 := by omega
          have g4 : (rr : Int) ≤ 255 := by omega
          have hone : Hid (∀ u ∈ [Value.int .u8 (((nl ||| 1 : Nat))), Value.int .u8 ((rr : Nat)), Value.int .u8 ((d : Int) + 16 * q)], u.oneCell' = true) := by intro u hu; simp at hu; rcases hu with rfl | rfl | rfl <;> rfl
          have HE := Lib.hid (show encInp x = [(((nl ||| 1 : Nat)) : Int), ((rr : Nat) : Int), (d : Int) + 16 * q] by unfold encInp; rw [f1, hrx, f6, f8]; simp; try omega)
          rw [f1] at j0; rw [hrx] at j1; rw [f6] at j2; rw [f8] at j3
          have hz7 : Hid (w.heap.size ≤ (w7.alloc (.cells #[Value.int .u8 (((nl ||| 1 : Nat))), Value.int .u8 ((rr : Nat)), Value.int .u8 ((d : Int) + 16 * q)] 5)).heap.size) := by have := B7.out.size; show _ ≤ _; simp; omega
          have hbd := Lib.hid (show (12 + m + 3 * k + 3) * 1 ≤ 140737488355328 by omega)
          have hbd2 := Lib.hid (show 12 + m + 3 * k + 3 ≤ maxLen by unfold maxLen; omega)
          clear f1 f2 f3 f5 f6 f7 f8 f9 hrx hok HX HY HK
          go_wp2_with (at_builtin; refine wpList_app rfl _ _ 22 rfl w.heap.size 5 (.int .u8 0) 1 Tryd.underlying22 A_info5 rfl _ (12 + m + 3 * k) _ rfl (O7.out.alloc _) (some ⟨w7.heap.size, 0, none⟩) 3 3 [Value.int .u8 (((nl ||| 1 : Nat))), Value.int .u8 ((rr : Nat)), Value.int .u8 ((d : Int) + 16 * q)] rfl (src_new w7 _ 5 3 rfl) hone.out hbd.out hbd2.out hz7.out ?_; intro v8 w8 hown hg _; have O8 := Lib.hid hown; have B8 := Lib.hid (own_base (O7.out.alloc _) hg (B7.out.alloc B7.out.size _) hz7.out (Nat.le_refl _)); clear hown hg)
          go_roundw
          case rel =>
            refine ⟨k + 1, by omega, by rw [Int.natCast_succ], HK2, Lib.hid ?_, B8.out⟩
            have := O8.out
            rw [HT.out, HE.out]
            have e : 12 + m + 3 * k + 3 = 12 + m + 3 * (k + 1) := by omega
            rw [e] at this
            simpa using this
          case measure => simp [intOf]; omega
    · have HA : Hid (l.all okInp = true) := all_to fun j hj => HK.out j hj (by have := HL.out; omega)
      have HLE := Lib.hid (enc_len pages most seed img l)
      obtain rfl : k = n := by omega
      go_wp2_with fail
      go_ret2
      refine ⟨B0.out, (fun h => by rw [HA.out] at h; cases h), fun _ => ⟨_, rfl, ?_⟩⟩
      have := HO.out
      rw [HLE.out, encOf_head, HL.out, HM.out]
      rw [← HL.out, List.take_length, HL.out] at this
      exact this
end Go.Proofs.YtoiffpoffnlebaaDoor
end
section
set_option linter.unusedVariables false
namespace Go.Proofs.YtoiffpoffnlebaaDoor
open Go.ChangeShapes Go.WideShapes Go.RowKit Go.Deep
section
variable {H : Type} {enc : TypeId × Value → H} {P : Program} {W : World}
/-- one field of one element that is a number -/
theorem field_int {t : TypeId} {k : IntKind} (ht : P.underlying t = some (.int k)) {base n : Nat} {sp : Nat → Bool} {held : Bool} {v : Value} {y : DataW H × List MemPlace} (h : DataW.trod enc P W base sp held n t [v] = some y) : ∃ x, v = .int k x ∧ (Lit.int k x).wf = true := by
  obtain ⟨x, h1, _, h3⟩ := DataW.trod_int ht h
  exact ⟨x, by simpa using h1, h3⟩
theorem arg_four {t e : TypeId} {f0 f1 f2 f3 : Field} {q0 q1 q2 q3 : IntKind} (ht : P.underlying t = some (.slice e)) (he : P.underlying e = some (.struct #[f0, f1, f2, f3])) (hone : oneCellFields P #[f0, f1, f2, f3] = true) (hC : P.cellsOf e = 4)
    (u0 : P.underlying f0.type = some (.int q0)) (u1 : P.underlying f1.type = some (.int q1)) (u2 : P.underlying f2.type = some (.int q2)) (u3 : P.underlying f3.type = some (.int q3))
    {a : Option Addr} {len cap : Nat} {d : DataW H} {p : List MemPlace} {b0 : Nat} (hv : Value.okWide P W .any b0 t (.slice a len cap)) (h : DataW.Trod enc P W 0 (fun _ => true) true t (.slice a len cap) d p) :
    ∃ Z : Nat → Int × Int × Int × Int, len ≤ cap ∧ cap ≤ 9223372036854775807 ∧ ∀ i, i < cap → ((Lit.int q0 (Z i).1).wf = true ∧ (Lit.int q1 (Z i).2.1).wf = true ∧ (Lit.int q2 (Z i).2.2.1).wf = true ∧ (Lit.int q3 (Z i).2.2.2).wf = true) ∧
      ∃ b o, a = some ⟨b, o, none⟩ ∧ b < W.heap.size ∧ W.rangeAt b (o + i * 4) [.int q0 (Z i).1, .int q1 (Z i).2.1, .int q2 (Z i).2.2.1, .int q3 (Z i).2.2.2] := by
  have hform := slice_form ht hv
  obtain ⟨fuel, hf⟩ := h
  rcases open_slice ht hf with ⟨hcs, hx⟩ | ⟨ad, len', cap', m, n, D, Pl, hcs, _, hl, hm, hmm, hx, hi⟩
  · simp [Value.cells] at hcs
    obtain ⟨rfl, rfl, rfl⟩ := hcs
    exact ⟨fun _ => (0, 0, 0, 0), Nat.le_refl _, by omega, fun i h => absurd h (by omega)⟩
  · simp [Value.cells] at hcs
    obtain ⟨rfl, rfl, rfl⟩ := hcs
    simp only [if_true] at hmm
    subst hmm
    have each : ∀ i, i < m → ∃ z : Int × Int × Int × Int, ((Lit.int q0 z.1).wf = true ∧ (Lit.int q1 z.2.1).wf = true ∧ (Lit.int q2 z.2.2.1).wf = true ∧ (Lit.int q3 z.2.2.2).wf = true) ∧
        ∃ b o, some ad = some (⟨b, o, none⟩ : Addr) ∧ b < W.heap.size ∧ W.rangeAt b (o + i * 4) [.int q0 z.1, .int q1 z.2.1, .int q2 z.2.2.1, .int q3 z.2.2.2] := fun i him => by
      obtain ⟨cs', hc, ht'⟩ := hi i him
      rw [hC] at hc
      obtain ⟨ys, n', hn', hy, hlen, hyl, hg⟩ := DataW.trod_struct he ht'
      obtain ⟨_, hcl, hat⟩ := World.cells?_some hc
      obtain ⟨o0, k0⟩ := hone_of hone 0 f0 rfl
      obtain ⟨o1, k1⟩ := hone_of hone 1 f1 rfl
      obtain ⟨o2, k2⟩ := hone_of hone 2 f2 rfl
      obtain ⟨o3, k3⟩ := hone_of hone 3 f3 rfl
      match cs', hcl, hat with
      | [c0, c1, c2, c3], _, hat =>
        match ys, hyl with
        | [y0, y1, y2, y3], _ =>
          obtain ⟨x0, rfl, w0⟩ := field_int u0 (by simpa [o0, k0] using hg 0 f0 rfl)
          obtain ⟨x1, rfl, w1⟩ := field_int u1 (by simpa [o1, k1] using hg 1 f1 rfl)
          obtain ⟨x2, rfl, w2⟩ := field_int u2 (by simpa [o2, k2] using hg 2 f2 rfl)
          obtain ⟨x3, rfl, w3⟩ := field_int u3 (by simpa [o3, k3] using hg 3 f3 rfl)
          refine ⟨(x0, x1, x2, x3), ⟨w0, w1, w2, w3⟩, ?_⟩
          rcases hform with h0 | ⟨b, o, h1, h2⟩
          · cases h0
          · refine ⟨b, o, h1, h2, fun j v hj => ?_⟩
            cases h1
            have hjl : j < 4 := by have := (List.getElem?_eq_some_iff.1 hj).1; simpa using this
            have h3 := hat j hjl
            rw [Addr.add_mid, Addr.add_mid] at h3
            rw [h3]
            exact hj
    obtain ⟨Z, hZ⟩ := choose_lt (α := Int × Int × Int × Int) each
    exact ⟨Z, hl, hm, hZ⟩
end
end Go.Proofs.YtoiffpoffnlebaaDoor
end
section
set_option linter.unusedVariables false
set_option linter.unusedSimpArgs false
namespace Go.Proofs.YtoiffpoffnlebaaDoor
open Go.ChangeShapes Go.WideShapes Go.ChangeAt Go.RowKit Go.Joins Go.Deep
set_option maxRecDepth 100000
section
variable {P : Program} {W : World} {H : Type} {enc : TypeId × Value → H}
/-- a struct of one-cell fields that came in by value: its cells, each field's own reading -/
theorem agg_fields {t : TypeId} {fs : Array Field} (ht : P.underlying t = some (.struct fs)) (hone : oneCellFields P fs = true) (hC : P.cellsOf t = fs.size) {v : Value} {d : DataW H} {p : List MemPlace} {b0 : Nat} (hv : Value.okWide P W .any b0 t v) (h : DataW.Trod enc P W 0 (fun _ => true) true t v d p) :
    ∃ cs : Array Value, v = .agg cs ∧ cs.size = fs.size ∧ ∀ (i : Nat) (f : Field), fs[i]? = some f → ∃ c y n, cs[i]? = some c ∧ DataW.trod enc P W 0 (fun _ => true) true n f.type [c] = some y := by
  obtain ⟨cs, rfl, hsz⟩ := okWide_struct ht hv
  refine ⟨cs, rfl, hsz.trans hC, fun i f hf => ?_⟩
  obtain ⟨fuel, hf'⟩ := h
  obtain ⟨ys, n', hn', hy, hlen, hyl, hg⟩ := DataW.trod_struct ht hf'
  obtain ⟨o0, k0⟩ := hone_of hone i f hf
  have hi : i < fs.size := (Array.getElem?_eq_some_iff.1 hf).1
  have hic : i < cs.size := by omega
  have h1 := hg i f hf
  rw [List.getElem?_eq_getElem (by omega : i < ys.length)] at h1
  refine ⟨cs[i], ys[i], n', by simp [hic], ?_⟩
  rw [← h1, o0, k0]
  congr 1
  simp [Value.cells]
  rw [List.drop_eq_getElem_cons (by simpa using hic)]
  simp
end
theorem array3 {α : Type} {cs : Array α} (h : cs.size = 3) : ∃ c0 c1 c2, cs = #[c0, c1, c2] := by
  obtain ⟨l⟩ := cs
  match l, h with
  | [c0, c1, c2], _ => exact ⟨c0, c1, c2, rfl⟩
section
variable {W : World} {H : Type} {enc : TypeId × Value → H}
theorem setup_form {v : Value} {d : DataW H} {p : List MemPlace} {b0 : Nat} (hv : Value.okWide Tryd.prog W .any b0 26 v) (h : DataW.Trod enc Tryd.prog W 0 (fun _ => true) true 26 v d p) :
    ∃ a b c, v = .agg #[.int .i64 a, .int .i64 b, .int .u64 c] ∧ (Lit.int .i64 a).wf = true ∧ (Lit.int .i64 b).wf = true ∧ (Lit.int .u64 c).wf = true := by
  obtain ⟨cs, rfl, hsz, hg⟩ := agg_fields Tryd.underlying26 (by kernel_rfl) (by kernel_rfl) hv h
  obtain ⟨c0, c1, c2, rfl⟩ := array3 hsz
  obtain ⟨_, y0, n0, e0, k0⟩ := hg 0 _ rfl
  obtain ⟨_, y1, n1, e1, k1⟩ := hg 1 _ rfl
  obtain ⟨_, y2, n2, e2, k2⟩ := hg 2 _ rfl
  cases e0; cases e1; cases e2
  obtain ⟨x0, rfl, z0⟩ := field_int Tryd.underlying3 k0
  obtain ⟨x1, rfl, z1⟩ := field_int Tryd.underlying3 k1
  obtain ⟨x2, rfl, z2⟩ := field_int Tryd.underlying24 k2
  exact ⟨_, _, _, rfl, z0, z1, z2⟩
theorem inp_row {a : Option Addr} {len cap : Nat} {Z : Nat → Int × Int × Int × Int} (hle : len ≤ cap)
    (hZ : ∀ i, i < cap → ((Lit.int .i64 (Z i).1).wf = true ∧ (Lit.int .i64 (Z i).2.1).wf = true ∧ (Lit.int .i64 (Z i).2.2.1).wf = true ∧ (Lit.int .i64 (Z i).2.2.2).wf = true) ∧
      ∃ b o, a = some ⟨b, o, none⟩ ∧ b < W.heap.size ∧ W.rangeAt b (o + i * 4) [.int .i64 (Z i).1, .int .i64 (Z i).2.1, .int .i64 (Z i).2.2.1, .int .i64 (Z i).2.2.2]) :
    ∃ l : List Inp, l.length = len ∧ InpRow W a l ∧ ∀ x ∈ l, -9223372036854775808 ≤ x.lines ∧ x.lines ≤ 9223372036854775807 := by
  refine ⟨(List.range len).map fun i => ⟨(Z i).1, (Z i).2.1, (Z i).2.2.1, (Z i).2.2.2⟩, by simp, fun h0 => ?_, fun x hx => ?_⟩
  · have h0' : 0 < len := by simpa using h0
    obtain ⟨b, o, h1, h2, _⟩ := (hZ 0 (by omega)).2
    refine ⟨b, o, h1, h2, fun k hk => ?_⟩
    have hk' : k < len := by simpa using hk
    obtain ⟨b', o', h3, _, h4⟩ := (hZ k (by omega)).2
    rw [h1] at h3
    cases h3
    simpa [Inp.vals] using h4
  · obtain ⟨i, hi, rfl⟩ := List.mem_map.1 hx
    have hi' : i < len := by simpa using hi
    have := (hZ i (by omega)).1.1
    have h2 : IntKind.i64.min ≤ (Z i).1 ∧ (Z i).1 ≤ IntKind.i64.max := by simpa [Lit.wf] using this
    exact h2
end
end Go.Proofs.YtoiffpoffnlebaaDoor
end
