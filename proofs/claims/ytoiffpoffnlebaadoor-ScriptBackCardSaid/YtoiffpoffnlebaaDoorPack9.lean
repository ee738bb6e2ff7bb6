/- What is encoded is decoded as it was: the plain law. No condition. Contracts of script.mayInput, Encode, and of the reference's Takes. No condition. -/
import Derived.Test.YtoiffpoffnlebaaDoorPack1
section
set_option linter.unusedVariables false
set_option linter.unusedSimpArgs false
namespace Go.Proofs.YtoiffpoffnlebaaDoor
open Go.RowKit
/-- may an input be encoded? -/
def okInp (x : Inp) : Bool := decide (bits .andNot .i64 x.lines 126 = 0 ∧ -1 ≤ x.rx ∧ x.rx ≤ 255 ∧ 0 ≤ x.delay ∧ x.delay ≤ 30 ∧ x.delay.tmod 2 = 0 ∧ 0 ≤ x.pick ∧ x.pick ≤ 15)
theorem andNot126 {x : Int} (h0 : -9223372036854775808 ≤ x) (h1 : x ≤ 9223372036854775807) (h : bits .andNot .i64 x 126 = 0) : ∃ n : Nat, x = n ∧ n ≤ 126 ∧ n &&& 126 = n := by
  have e : (BitVec.ofInt 64 x &&& ~~~ BitVec.ofInt 64 126) = 0#64 := by
    have h2 : IntKind.i64.wrap ((BitVec.ofInt 64 x &&& ~~~ BitVec.ofInt 64 126).toNat : Int) = 0 := h
    rw [IntKind.wrap_i64] at h2
    apply BitVec.eq_of_toNat_eq
    have := (BitVec.ofInt 64 x &&& ~~~ BitVec.ofInt 64 126).isLt
    simp only [BitVec.toNat_ofNat]
    omega
  have e2 : BitVec.ofInt 64 x &&& 126#64 = BitVec.ofInt 64 x := by
    apply BitVec.eq_of_getLsbD_eq
    intro i hi
    have := congrArg (fun b => b.getLsbD i) e
    simp [hi] at this
    rw [BitVec.getLsbD_and]
    cases hb : (BitVec.ofInt 64 x).getLsbD i
    · simp
    · have h3 := this (by rw [← BitVec.getLsbD_eq_getElem]; exact hb)
      rw [← BitVec.getLsbD_eq_getElem] at h3
      have h4 : (~~~(126#64)).getLsbD i = false := h3
      rw [BitVec.getLsbD_not, decide_eq_true hi, Bool.true_and] at h4
      rw [Bool.true_and]
      cases hq : (126#64).getLsbD i
      · rw [hq] at h4; cases h4
      · rfl
  have e3 := congrArg BitVec.toNat e2
  rw [BitVec.toNat_and] at e3
  have e4 : (126#64).toNat = 126 := rfl
  rw [e4] at e3
  have le : (BitVec.ofInt 64 x).toNat ≤ 126 := by rw [← e3]; exact Nat.and_le_right
  refine ⟨(BitVec.ofInt 64 x).toNat, ?_, le, e3⟩
  rw [BitVec.toNat_ofInt] at le ⊢
  omega
/-- the bytes of an input -/
def encInp (x : Inp) : List Int := [((x.lines.toNat ||| (if 0 ≤ x.rx then 1 else 0) : Nat) : Int), max x.rx 0, x.delay / 2 + 16 * x.pick]
/-- the bytes of a script -/
def encOf (pages most : Int) (seed : Nat) (img : List Int) (l : List Inp) : List Int := [pages - 4, most] ++ (numBytes seed 8 ++ (numBytes img.length 2 ++ (img ++ l.flatMap encInp)))
theorem wordN_num (v : Nat) : ∀ k, wordN (fun i => v / 2 ^ (8 * i) % 256) k = v % 2 ^ (8 * k)
  | 0 => by simp [wordN, Nat.mod_one]
  | k + 1 => by
    unfold wordN
    rw [wordN_num v k, show 8 * (k + 1) = 8 * k + 8 by omega, Nat.pow_add, Nat.mod_mul]
    rw [show (2 : Nat) ^ 8 = 256 from rfl, Nat.mul_comm (v / 2 ^ (8 * k) % 256)]
theorem encInp_len (l : List Inp) : (l.flatMap encInp).length = l.length * 3 := by
  induction l with
  | nil => rfl
  | cons a l ih => rw [List.flatMap_cons, List.length_append, ih, List.length_cons]; simp [encInp]; omega
theorem encInp_at (l : List Inp) (k j : Nat) (hj : j < 3) (hk : k < l.length) : (l.flatMap encInp).getD (k * 3 + j) 0 = (encInp l[k]).getD j 0 := by
  induction l generalizing k with
  | nil => simp at hk
  | cons a l ih =>
    rw [List.flatMap_cons, List.getD_eq_getElem?_getD]
    cases k with
    | zero => rw [List.getElem?_append_left (by simp [encInp]; omega)]; simp [List.getD]
    | succ k =>
      rw [List.getElem?_append_right (by simp [encInp]; omega)]
      have e : (k + 1) * 3 + j - (encInp a).length = k * 3 + j := by simp [encInp]; omega
      rw [e, ← List.getD_eq_getElem?_getD, ih k (by simpa using hk)]
      simp
section
variable (pages most : Int) (seed : Nat) (img : List Int) (l : List Inp)
theorem enc_len : (encOf pages most seed img l).length = 12 + img.length + 3 * l.length := by
  simp only [encOf, List.length_append, numBytes_len, encInp_len, List.length_cons, List.length_nil]; omega
theorem enc_seed (i : Nat) (hi : i < 8) : (encOf pages most seed img l).getD (2 + i) 0 = (seed / 2 ^ (8 * i) % 256 : Nat) := by
  unfold encOf
  rw [List.getD_eq_getElem?_getD, List.getElem?_append_right (by simp), List.getElem?_append_left (by simp [numBytes_len]; omega)]
  simp [numBytes, show 2 + i - 2 = i by omega, hi]
theorem enc_size (i : Nat) (hi : i < 2) : (encOf pages most seed img l).getD (10 + i) 0 = (img.length / 2 ^ (8 * i) % 256 : Nat) := by
  unfold encOf
  rw [List.getD_eq_getElem?_getD, List.getElem?_append_right (by simp; omega), List.getElem?_append_right (by simp [numBytes_len]; omega), List.getElem?_append_left (by simp [numBytes_len]; omega)]
  simp [numBytes, show 10 + i - 2 - 8 = i by omega, hi]
theorem enc_img : ((encOf pages most seed img l).drop 12).take img.length = img := by
  unfold encOf
  have e : ([pages - 4, most] ++ (numBytes seed 8 ++ (numBytes img.length 2 ++ (img ++ l.flatMap encInp)))) = ([pages - 4, most] ++ (numBytes seed 8 ++ numBytes img.length 2)) ++ (img ++ l.flatMap encInp) := by simp
  rw [e, List.drop_left' (by simp [numBytes_len]), List.take_left' rfl]
theorem enc_inp (k j : Nat) (hj : j < 3) (hk : k < l.length) : (encOf pages most seed img l).getD (12 + img.length + 3 * k + j) 0 = (encInp l[k]).getD j 0 := by
  unfold encOf
  have e : ([pages - 4, most] ++ (numBytes seed 8 ++ (numBytes img.length 2 ++ (img ++ l.flatMap encInp)))) = ([pages - 4, most] ++ (numBytes seed 8 ++ (numBytes img.length 2 ++ img))) ++ l.flatMap encInp := by simp
  rw [e, List.getD_eq_getElem?_getD, List.getElem?_append_right (by simp [numBytes_len]; omega), ← List.getD_eq_getElem?_getD, ← encInp_at l k j hj hk]
  congr 1
  simp [numBytes_len]
  omega
theorem byteAt_nat {l : List Int} {i n : Nat} (h : l.getD i 0 = (n : Int)) : byteAt l i = n := by unfold byteAt; rw [h]; rfl
/-- an input that may be -/
theorem okInp_iff {x : Inp} (h0 : -9223372036854775808 ≤ x.lines) (h1 : x.lines ≤ 9223372036854775807) (h : okInp x = true) :
    ∃ n r d q : Nat, x.lines = n ∧ n ≤ 126 ∧ n &&& 126 = n ∧ (x.rx = -1 ∧ r = 0 ∨ x.rx = r) ∧ r ≤ 255 ∧ x.delay = 2 * d ∧ d ≤ 15 ∧ x.pick = q ∧ q ≤ 15 := by
  obtain ⟨a1, a2, a3, a4, a5, a6, a7, a8⟩ := of_decide_eq_true h
  obtain ⟨n, e1, e2, e3⟩ := andNot126 h0 h1 a1
  rw [Int.tmod_eq_emod_of_nonneg a4] at a6
  refine ⟨n, x.rx.toNat, (x.delay / 2).toNat, x.pick.toNat, e1, e2, e3, ?_, by omega, by omega, by omega, by omega, by omega⟩
  by_cases hr : x.rx = -1
  · exact .inl ⟨hr, by omega⟩
  · exact .inr (by omega)
theorem low_or (n : Nat) (h : n &&& 126 = n) : (n ||| 1) % 2 = 1 ∧ (n ||| 1) &&& 126 = n ∧ n % 2 = 0 := by
  have e : ∀ i, n.testBit i = (n.testBit i && (126 : Nat).testBit i) := fun i => by rw [← Nat.testBit_and, h]
  refine ⟨?_, ?_, ?_⟩
  · rw [← Nat.and_one_is_mod]
    apply Nat.eq_of_testBit_eq
    intro i
    rw [Nat.testBit_and, Nat.testBit_or]
    cases (1 : Nat).testBit i <;> simp
  · apply Nat.eq_of_testBit_eq
    intro i
    rw [Nat.testBit_and, Nat.testBit_or, e i]
    cases n.testBit i
    · cases i with
      | zero => rfl
      | succ i => simp [Nat.testBit_succ]
    · cases (126 : Nat).testBit i <;> simp
  · have := e 0
    rw [Nat.testBit_zero] at this
    simp at this
    omega
theorem enc_back (hp0 : 4 ≤ pages) (hp1 : pages ≤ 16) (hm0 : 0 ≤ most) (hm1 : most ≤ 32) (hs : seed < 2 ^ 64) (hi : img.length ≤ 8192) (hl : l.length ≤ 4096) (hok : ∀ x ∈ l, okInp x = true) (hln : ∀ x ∈ l, -9223372036854775808 ≤ x.lines ∧ x.lines ≤ 9223372036854775807) :
    4 + (byteAt (encOf pages most seed img l) 0 : Int) % 13 = pages ∧ (byteAt (encOf pages most seed img l) 1 : Int) % 33 = most ∧ wordN (fun i => byteAt (encOf pages most seed img l) (2 + i)) 8 = seed ∧
    imgLen (encOf pages most seed img l) = img.length ∧ imgOf (encOf pages most seed img l) = img ∧ inpN (encOf pages most seed img l) = l.length ∧ inpTo (encOf pages most seed img l) l.length = l := by
  have hb0 : (byteAt (encOf pages most seed img l) 0 : Int) = pages - 4 := by
    unfold byteAt encOf; simp; omega
  have hb1 : (byteAt (encOf pages most seed img l) 1 : Int) = most := by
    unfold byteAt encOf; simp; omega
  have h10 := byteAt_nat (enc_size pages most seed img l 0 (by omega))
  have h11 := byteAt_nat (enc_size pages most seed img l 1 (by omega))
  have hlen := enc_len pages most seed img l
  have hil : imgLen (encOf pages most seed img l) = img.length := by
    unfold imgLen
    rw [h10, h11, hlen]
    simp only [Nat.mul_zero, Nat.pow_zero, Nat.div_one]
    omega
  have hN : inpN (encOf pages most seed img l) = l.length := by unfold inpN; rw [hil, hlen]; omega
  refine ⟨by rw [hb0]; omega, by rw [hb1]; omega, ?_, hil, by unfold imgOf; rw [hil]; exact enc_img .., hN, ?_⟩
  · rw [wordN_congr 8 (g := fun i => seed / 2 ^ (8 * i) % 256) (fun i hi => byteAt_nat (enc_seed pages most seed img l i hi)), wordN_num]
    exact Nat.mod_eq_of_lt hs
  · apply List.ext_getElem (by simp [inpTo])
    intro k h1 h2
    simp only [inpTo, List.getElem_map, List.getElem_range]
    have hx := List.getElem_mem h2
    obtain ⟨n, r, d, q, e1, e2, e3, e4, e5, e6, e7, e8, e9⟩ := okInp_iff (hln _ hx).1 (hln _ hx).2 (hok _ hx)
    have c0 := enc_inp pages most seed img l k 0 (by omega) h2
    have c1 := enc_inp pages most seed img l k 1 (by omega) h2
    have c2 := enc_inp pages most seed img l k 2 (by omega) h2
    obtain ⟨b1, b2, b3⟩ := low_or n e3
    generalize l[k] = x at *
    obtain ⟨xl, xr, xd, xp⟩ := x
    simp only at e1 e4 e6 e8
    subst e1; subst e6; subst e8
    have g1 : byteAt (encOf pages most seed img l) (12 + img.length + 3 * k + 1) = r := byteAt_nat (by rw [c1]; simp [encInp]; omega)
    have g2 : byteAt (encOf pages most seed img l) (12 + img.length + 3 * k + 2) = d + 16 * q := byteAt_nat (by rw [c2]; simp [encInp])
    unfold inpAt
    simp only [hil]
    rw [g1, g2]
    rcases e4 with ⟨rfl, rfl⟩ | rfl
    · have g0 : byteAt (encOf pages most seed img l) (12 + img.length + 3 * k) = n := byteAt_nat (by have := c0; rw [Nat.add_zero] at this; rw [this]; simp [encInp])
      rw [g0, if_pos b3, e3]
      congr 1 <;> omega
    · have g0 : byteAt (encOf pages most seed img l) (12 + img.length + 3 * k) = n ||| 1 := byteAt_nat (by have := c0; rw [Nat.add_zero] at this; rw [this]; simp [encInp])
      rw [g0, if_neg (by omega), b2]
      congr 1 <;> omega
end
end Go.Proofs.YtoiffpoffnlebaaDoor
end
section
set_option linter.unusedVariables false
set_option linter.unusedSimpArgs false
namespace Go.Proofs.YtoiffpoffnlebaaDoor
open Go.RowKit
set_option maxRecDepth 100000
/-- it answers that, and makes new memory at most -/
def BoolIs (b : Bool) (w : World) (e : Ending) (w' : World) : Prop := e = .returned (.bool b) ∧ Below w.heap.size w w'
set_option maxHeartbeats 4000000 in
theorem may_input (x : Inp) (w : World) : Calls Tryd.prog 23 #[.agg #[.int .i64 x.lines, .int .i64 x.rx, .int .i64 x.delay, .int .i64 x.pick]] w (BoolIs (okInp x) w) := by
  obtain ⟨a, b, c, d⟩ := x
  have hb := fun o => (Below.refl w.heap.size w).alloc (Nat.le_refl _) o
  have HB := Lib.hid hb
  clear hb
  have HO := Lib.hid (show okInp ⟨a, b, c, d⟩ = decide (bits .andNot .i64 a 126 = 0 ∧ -1 ≤ b ∧ b ≤ 255 ∧ 0 ≤ c ∧ c ≤ 30 ∧ c.tmod 2 = 0 ∧ 0 ≤ d ∧ d ≤ 15) from rfl)
  generalize okInp ⟨a, b, c, d⟩ = ok at *
  obtain ⟨q, hq⟩ : ∃ q, bits .andNot .i64 a 126 = q := ⟨_, rfl⟩
  obtain ⟨r, hr⟩ : ∃ r, c.tmod 2 = r := ⟨_, rfl⟩
  rw [hq, hr] at HO
  go_enter Tryd.func23, Tryd.ntmps23
  go_wp2
  all_goals
    clear hq hr
    go_ret
    refine ⟨ret_bool ?_, HB.out _⟩
    rw [HO.out]
    first
    | (symm; apply decide_eq_false; omega)
    | (rw [decide_eq_decide]; omega)
def headOk (pages most : Int) (m n : Nat) : Bool := decide (4 ≤ pages ∧ pages ≤ 16 ∧ 0 ≤ most ∧ most ≤ 32 ∧ (m : Int) ≤ 8192 ∧ (n : Int) ≤ 4096)
def takesB (pages most : Int) (m : Nat) (l : List Inp) : Bool := headOk pages most m l.length && l.all okInp
theorem all_at {l : List Inp} {k : Nat} (hk : k < l.length) (h : okInp l[k] = false) : l.all okInp = false := by
  rw [List.all_eq_false]
  exact ⟨l[k], List.getElem_mem hk, by rw [h]; simp⟩
theorem all_to {l : List Inp} (h : ∀ k (hk : k < l.length), okInp l[k] = true) : l.all okInp = true := by
  rw [List.all_eq_true]
  intro x hx
  obtain ⟨k, hk, rfl⟩ := List.getElem_of_mem hx
  exact h k hk
set_option maxHeartbeats 8000000 in
theorem ref_takes (pages most : Int) (seed : Int) (a1 a2 : Option Addr) (m c1 n c2 : Nat) (l : List Inp) (hl : l.length = n) (w : World) (hr : InpRow w a2 l) (hn : (n : Int) ≤ 9223372036854775807) :
    Calls Tryd.prog 13 #[.agg #[.int .i64 pages, .int .i64 most, .int .u64 seed], .slice a1 m c1, .slice a2 n c2] w (BoolIs (takesB pages most m l) w) := by
  have HR := Lib.hid hr
  have HL := Lib.hid hl
  have HT := Lib.hid (show takesB pages most m l = (headOk pages most m n && l.all okInp) by unfold takesB; rw [hl])
  have HO := Lib.hid (show headOk pages most m n = decide (4 ≤ pages ∧ pages ≤ 16 ∧ 0 ≤ most ∧ most ≤ 32 ∧ (m : Int) ≤ 8192 ∧ (n : Int) ≤ 4096) from rfl)
  have HB := Lib.hid (fun o => (Below.refl w.heap.size w).alloc (Nat.le_refl _) o)
  clear hr hl
  generalize headOk pages most m n = ho at *
  generalize takesB pages most m l = tk at *
  by_cases hh : ho = false
  · subst hh
    have HO2 := Lib.hid (of_decide_eq_false HO.out.symm)
    obtain rfl : tk = false := by rw [HT.out]; rfl
    clear HT HO
    go_enter Tryd.func13, Tryd.ntmps13
    go_wp2
    all_goals
      have := HO2.out
      first
      | (go_ret; exact ⟨rfl, HB.out _⟩)
      | (exfalso; omega)
  · obtain rfl : ho = true := by cases ho <;> simp_all
    obtain ⟨t1, t2, t3, t4, t5, t6⟩ := of_decide_eq_true HO.out.symm
    have HT2 := Lib.hid (show tk = l.all okInp by rw [HT.out]; rfl)
    clear hh HO HT
    go_enter Tryd.func13, Tryd.ntmps13
    go_wp2
    go_loopw [7] (fun i wr => ∃ k : Nat, (k : Int) ≤ n ∧ i = .int .i64 k ∧ Hid (∀ j (hj : j < l.length), j < k → okInp l[j] = true) ∧ Below w.heap.size w wr) (fun i _ => n - (intOf i).toNat)
    case atStart => exact ⟨0, by omega, rfl, (fun j _ h => absurd h (by omega)), HB.out _⟩
    case round =>
      obtain ⟨k, hk, rfl, HK, hB⟩ := hrel
      have B0 := Lib.hid hB
      clear hB
      by_cases hlt : (k : Int) < n
      · have hkl : k < l.length := by have := HL.out; omega
        obtain ⟨b, o, rfl, hlb, hc⟩ := HR.out (by omega)
        have hc := hc k hkl
        have e1 : wr.rangeAt b (o + k * 4) (l[k]).vals := fun j v hv => (B0.out.cell (p := ⟨b, o + k * 4 + j, none⟩) hlb).trans (hc j v hv)
        have HX := Lib.hid (fun h => HT2.out.trans (all_at hkl h))
        have HY : Hid (okInp l[k] = true → ∀ j (hj : j < l.length), j < k + 1 → okInp l[j] = true) := fun h j hj hjk => by
          by_cases e : j = k
          · subst e; exact h
          · exact HK.out j hj (by omega)
        have HOI := Lib.hid (show okInp l[k] = decide (bits .andNot .i64 (l[k]).lines 126 = 0 ∧ -1 ≤ (l[k]).rx ∧ (l[k]).rx ≤ 255 ∧ 0 ≤ (l[k]).delay ∧ (l[k]).delay ≤ 30 ∧ (l[k]).delay.tmod 2 = 0 ∧ 0 ≤ (l[k]).pick ∧ (l[k]).pick ≤ 15) from rfl)
        clear hc hlb
        generalize okInp l[k] = ok at HX HY HOI
        generalize l[k] = x at e1 HOI
        obtain ⟨xa, xb, xc, xd⟩ := x
        have i0 : wr.cell? ⟨b, o + k * 4, none⟩ = some (.int .i64 xa) := e1 0 _ rfl
        have i1 : wr.cell? ⟨b, o + k * 4 + 1, none⟩ = some (.int .i64 xb) := e1 1 _ rfl
        have i2 : wr.cell? ⟨b, o + k * 4 + 1 + 1, none⟩ = some (.int .i64 xc) := e1 2 _ rfl
        have i3 : wr.cell? ⟨b, o + k * 4 + 1 + 1 + 1, none⟩ = some (.int .i64 xd) := e1 3 _ rfl
        obtain ⟨q, hq⟩ : ∃ q, bits .andNot .i64 xa 126 = q := ⟨_, rfl⟩
        obtain ⟨r, hr⟩ : ∃ r, xc.tmod 2 = r := ⟨_, rfl⟩
        simp only at HOI
        rw [hq, hr] at HOI
        have HBA : Hid (∀ o, Below w.heap.size w (wr.alloc o)) := fun o => B0.out.alloc B0.out.size o
        clear e1 hkl hk
        cases ok with
        | true =>
          obtain ⟨s1, s2, s3, s4, s5, s6, s7, s8⟩ := of_decide_eq_true HOI.out.symm
          subst s1
          subst s6
          clear HX HOI
          go_wp2
          go_roundw
          case rel => exact ⟨k + 1, by omega, by rw [Int.natCast_succ], HY.out rfl, HBA.out _⟩
          case measure => simp [intOf]; omega
        | false =>
          have HN := Lib.hid (of_decide_eq_false HOI.out.symm)
          have HF := Lib.hid (HX.out rfl)
          clear HX HY HOI HT2
          go_wp2
          all_goals
            have := HN.out
            first
            | (go_ret; exact ⟨ret_bool HF.out.symm, HBA.out _⟩)
            | (exfalso; omega)
      · have HA : Hid (tk = true) := HT2.out.trans (all_to fun j hj => HK.out j hj (by have := HL.out; omega))
        obtain rfl : k = n := by omega
        go_wp2
        go_ret
        exact ⟨ret_bool HA.out.symm, B0.out⟩
end Go.Proofs.YtoiffpoffnlebaaDoor
end
