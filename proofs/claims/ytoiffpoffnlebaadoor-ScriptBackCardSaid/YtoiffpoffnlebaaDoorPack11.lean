/- ScriptBack: the walk. No condition. -/
import Derived.Test.YtoiffpoffnlebaaDoorPack10
import Derived.Test.YtoiffpoffnlebaaDoorPack2
import Derived.Test.YtoiffpoffnlebaaDoorPack8
section
set_option linter.unusedVariables false
set_option linter.unusedSimpArgs false
namespace Go.Proofs.YtoiffpoffnlebaaDoor
open Go.RowKit
set_option maxRecDepth 100000
theorem setup_same (a b c : Int) (w : World) : (Op.equalIn 10000 26 (.agg #[.int .i64 a, .int .i64 b, .int .u64 c]) (.agg #[.int .i64 a, .int .i64 b, .int .u64 c])).run Tryd.prog w = .ok true w := by
  go_simp
theorem scr_encode (pages most : Int) (hpm : -9223372036854775808 ≤ pages ∧ pages ≤ 9223372036854775807) (seed : Nat) (a1 a2 : Option Addr) (m c1 n c2 : Nat) (img : List Int) (l : List Inp) (hl : l.length = n) (w : World) (hb : IsB w a1 m img) (hlt : ∀ b o s, a1 = some ⟨b, o, s⟩ → b < w.heap.size) (hr : InpRow w a2 l) (hln : ∀ x ∈ l, -9223372036854775808 ≤ x.lines ∧ x.lines ≤ 9223372036854775807) :
    Calls Tryd.prog 12 #[.agg #[.int .i64 pages, .int .i64 most, .int .u64 seed], .slice a1 m c1, .slice a2 n c2] w (EncIs w (takesB pages most m l) (encOf pages most seed img l)) := by
  have e : takesB pages most m l = (headOk pages most m n && l.all okInp) := by unfold takesB; rw [hl]
  cases hh : headOk pages most m n with
  | false => rw [e, hh]; exact scr_encode_head pages most hpm seed a1 a2 m c1 n c2 w _ hh
  | true => rw [e, hh]; exact scr_encode_yes pages most seed a1 a2 m c1 n c2 img l hl w hb hlt hr hln hh
theorem own_Src {w : World} {base : Nat} {ad : Option Addr} {n c : Nat} {l : List Int} (h : w.ownsRow base 5 1 (.slice ad n c) n (l.map (Value.int .u8))) (hn : 0 < n) (hb : ∀ x ∈ l, 0 ≤ x ∧ x ≤ 255) : ∃ g, ad = some ⟨g, 0, none⟩ ∧ Src w g n l ∧ n ≤ c ∧ c ≤ 9223372036854775807 := by
  have hl : l.length = n := by have := h.1; simpa using this
  rcases h.2 with ⟨h1, h2⟩ | ⟨g, cap, cur, h1, _, hg, hn2, hm, hs, ht⟩
  · omega
  · cases h1
    refine ⟨g, rfl, ⟨hl, hb, blk_lt hg, fun i hi => ?_⟩, hn2, hm⟩
    rw [blk_cell hg, ← Array.getElem?_toList, ← List.getElem?_take_of_lt (l := cur.toList) (show i < n * 1 by omega), ht]
    simp [List.getD, hl, hi]
theorem enc_bd {pages most : Int} {seed : Nat} {img : List Int} {l : List Inp} (h1 : 4 ≤ pages) (h2 : pages ≤ 16) (h3 : 0 ≤ most) (h4 : most ≤ 32) (hi : ∀ x ∈ img, 0 ≤ x ∧ x ≤ 255) (hok : ∀ x ∈ l, okInp x = true) (hln : ∀ x ∈ l, -9223372036854775808 ≤ x.lines ∧ x.lines ≤ 9223372036854775807) : ∀ x ∈ encOf pages most seed img l, 0 ≤ x ∧ x ≤ 255 := by
  intro x hx
  unfold encOf at hx
  simp only [List.mem_append, List.mem_cons, List.not_mem_nil, or_false, List.mem_flatMap] at hx
  rcases hx with (rfl | rfl) | hx | hx | hx | ⟨y, hy, hx⟩
  · omega
  · omega
  · exact numBytes_bd _ _ x hx
  · exact numBytes_bd _ _ x hx
  · exact hi x hx
  · obtain ⟨n, r, d, q, e1, e2, e3, e4, e5, e6, e7, e8, e9⟩ := okInp_iff (hln y hy).1 (hln y hy).2 (hok y hy)
    have ho : ∀ b : Nat, b ≤ 1 → n ||| b < 128 := fun b hb => Nat.or_lt_two_pow (n := 7) (by omega) (by omega)
    simp only [encInp, List.mem_cons, List.not_mem_nil, or_false] at hx
    rcases hx with rfl | rfl | rfl
    · rw [e1, Int.toNat_natCast]
      have := ho (if 0 ≤ y.rx then 1 else 0) (by split <;> omega)
      omega
    · omega
    · omega
set_option maxHeartbeats 8000000 in
theorem scr_back (W : World) (pages most : Int) (hpm : -9223372036854775808 ≤ pages ∧ pages ≤ 9223372036854775807) (seed : Nat) (hsd : seed < 2 ^ 64) (a1 a2 : Option Addr) (m c1 n c2 : Nat) (img : List Int) (l : List Inp) (hl : l.length = n) (hn : (n : Int) ≤ 9223372036854775807) (hb : IsB W a1 m img) (hlt : ∀ b o s, a1 = some ⟨b, o, s⟩ → b < W.heap.size) (hr : InpRow W a2 l) (hln : ∀ x ∈ l, -9223372036854775808 ≤ x.lines ∧ x.lines ≤ 9223372036854775807) :
    Calls Tryd.prog 4 #[.agg #[.int .i64 pages, .int .i64 most, .int .u64 seed], .slice a1 m c1, .slice a2 n c2] W fun e w' => e = .returned (.bool true) ∧ Below W.heap.size W w' := by
  have HI := Lib.hid hb
  have HLT := Lib.hid hlt
  have HR := Lib.hid hr
  have HL := Lib.hid hl
  have HLN := Lib.hid hln
  have HE := Lib.hid (fun wq hb hlt hr => scr_encode pages most hpm seed a1 a2 m c1 n c2 img l hl wq hb hlt hr hln)
  have HTK := Lib.hid (fun wq hr => ref_takes pages most seed a1 a2 m c1 n c2 l hl wq hr hn)
  clear hb hlt hr hl hln
  cases htk : takesB pages most m l with
  | false =>
    rw [htk] at HE HTK
    clear htk
    go_enter Tryd.func4, Tryd.ntmps4
    go_wp2_with fail
    have B0 := Lib.hid ((Below.refl W.heap.size W).alloc (Nat.le_refl _) (.cells #[.int .i64 pages, .int .i64 most, .int .u64 (seed : Nat)] 26))
    refine (HE.out _ (isB_old HI.out HLT.out B0.out) (fun b o s e => Nat.lt_of_lt_of_le (HLT.out b o s e) B0.out.size) (InpRow.turned HR.out B0.out)).mono ?_
    rintro e w1 ⟨hb1, hno, _⟩
    obtain rfl := hno rfl
    have hd := (hb1.block W.heap.size (by simp)).trans (blk_alloc W _)
    have d0 := blk_cell hd 0; have d1 := blk_cell hd 1; have d2 := blk_cell hd 2
    simp at d0 d1 d2
    have B1 := Lib.hid (B0.out.trans (hb1.mono B0.out.size))
    have HD := Lib.hid hd
    clear hb1 hno hd
    go_wp2_with fail
    refine (asm_awake w1).mono ?_
    rintro e w2 ⟨rfl, hb2⟩
    have hd2 := (hb2.block W.heap.size (blk_lt HD.out)).trans HD.out
    have e0 := blk_cell hd2 0; have e1 := blk_cell hd2 1; have e2 := blk_cell hd2 2
    simp at e0 e1 e2
    have B2 := Lib.hid (B1.out.trans (hb2.mono B1.out.size))
    have HD2 := Lib.hid hd2
    clear hb2 hd2
    go_wp2_with fail
    refine (HTK.out _ (InpRow.turned HR.out B2.out)).mono ?_
    rintro e w3 ⟨rfl, hb3⟩
    have B3 := Lib.hid (B2.out.trans (hb3.mono B2.out.size))
    have HD3 := Lib.hid ((hb3.block W.heap.size (blk_lt HD2.out)).trans HD2.out)
    clear hb3
    go_wp2_with fail
    go_ret
    exact ⟨rfl, B3.out⟩
  | true =>
    rw [htk] at HE HTK
    have hhead : headOk pages most m l.length = true ∧ l.all okInp = true := by unfold takesB at htk; simpa using htk
    obtain ⟨t1, t2, t3, t4, t5, t6⟩ := of_decide_eq_true hhead.1
    have hall : ∀ x ∈ l, okInp x = true := List.all_eq_true.1 hhead.2
    obtain ⟨z1, z2, z3, z4, z5, z6, z7⟩ := enc_back pages most seed img l t1 t2 t3 t4 hsd (by have := HI.out.hlen; omega) (by omega) hall HLN.out
    have hlen := enc_len pages most seed img l
    have HBD := Lib.hid (enc_bd (seed := seed) t1 t2 t3 t4 HI.out.bd hall HLN.out)
    have H12 := Lib.hid (show 0 < (encOf pages most seed img l).length ∧ ((encOf pages most seed img l).length : Int) ≤ 140737488351232 by rw [hlen]; have := HI.out.hlen; omega)
    have HZ := Lib.hid (And.intro z1 (And.intro z2 (And.intro z3 (And.intro z4 (And.intro z5 (And.intro z6 z7))))))
    clear htk hhead t1 t2 t3 t4 t5 t6 hall z1 z2 z3 z4 z5 z6 z7 hlen
    generalize encOf pages most seed img l = bs at *
    go_enter Tryd.func4, Tryd.ntmps4
    go_wp2_with fail
    have B0 := Lib.hid ((Below.refl W.heap.size W).alloc (Nat.le_refl _) (.cells #[.int .i64 pages, .int .i64 most, .int .u64 (seed : Nat)] 26))
    refine (HE.out _ (isB_old HI.out HLT.out B0.out) (fun b o s e => Nat.lt_of_lt_of_le (HLT.out b o s e) B0.out.size) (InpRow.turned HR.out B0.out)).mono ?_
    rintro e w1 ⟨hb1, _, hyes⟩
    obtain ⟨v, rfl, hv⟩ := hyes rfl
    obtain ⟨ad, cp, rfl⟩ := own_slice hv
    obtain ⟨g, rfl, hS, hc1, hc2⟩ := own_Src hv H12.out.1 HBD.out
    have hd := (hb1.block W.heap.size (by simp)).trans (blk_alloc W _)
    have d0 := blk_cell hd 0; have d1 := blk_cell hd 1; have d2 := blk_cell hd 2
    simp at d0 d1 d2
    have B1 := Lib.hid (B0.out.trans (hb1.mono B0.out.size))
    have HD := Lib.hid hd
    have S1 := Lib.hid hS
    have HC := Lib.hid (And.intro hc1 hc2)
    clear hb1 hyes hd hv hS hc1 hc2
    go_wp2_with fail
    refine (asm_awake w1).mono ?_
    rintro e w2 ⟨rfl, hb2⟩
    have S2 := Lib.hid (S1.out.to hb2.size (hb2.block g S1.out.lt))
    have hd2 := (hb2.block W.heap.size (blk_lt HD.out)).trans HD.out
    have e0 := blk_cell hd2 0; have e1 := blk_cell hd2 1; have e2 := blk_cell hd2 2
    simp at e0 e1 e2
    have B2 := Lib.hid (B1.out.trans (hb2.mono B1.out.size))
    have HD2 := Lib.hid hd2
    clear hb2 hd2
    go_wp2_with fail
    refine (HTK.out _ (InpRow.turned HR.out B2.out)).mono ?_
    rintro e w3 ⟨rfl, hb3⟩
    have B3 := Lib.hid (B2.out.trans (hb3.mono B2.out.size))
    have HD3 := Lib.hid ((hb3.block W.heap.size (blk_lt HD2.out)).trans HD2.out)
    have S3 := Lib.hid (S2.out.to hb3.size (hb3.block g S2.out.lt))
    clear hb3
    go_wp2_with fail
    refine (scr_decode g _ cp bs w3 S3.out H12.out.2 HC.out.1 (by have := HC.out.2; omega)).mono ?_
    rintro e w4 ⟨vi, vl, rfl, h1, h2, h3⟩
    obtain ⟨z1, z2, z3, z4, z5, z6, z7⟩ := HZ.out
    rw [z6, z7] at h2
    rw [z4, z5] at h1
    rw [z1, z2, z3]
    have I4 := Lib.hid h1; have P4 := Lib.hid h2; have B4 := Lib.hid h3
    have HD4 := Lib.hid ((h3.block W.heap.size (blk_lt HD3.out)).trans HD3.out)
    clear h1 h2 h3 z1 z2 z3 z4 z5 z6 z7
    obtain ⟨w5, hw5⟩ : ∃ w5, w5 = w4.alloc (.cells #[.int .i64 pages, .int .i64 most, .int .u64 (seed : Nat)] 26) := ⟨_, rfl⟩
    have B5 : Hid (Below w4.heap.size w4 w5) := by rw [hw5]; exact (Below.refl _ _).alloc (Nat.le_refl _) _
    have C5 : Hid (w5.heap[w4.heap.size]? = some (.cells #[.int .i64 pages, .int .i64 most, .int .u64 (seed : Nat)] 26 (0, 0))) := by rw [hw5]; exact blk_alloc _ _
    have I5 := Lib.hid (own_below I4.out B5.out); have P5 := Lib.hid (own_below P4.out B5.out)
    have D5 := (B5.out.block W.heap.size (blk_lt HD4.out)).trans HD4.out
    have BW := Lib.hid ((B3.out.trans (B4.out.mono B3.out.size)).trans (B5.out.mono (Nat.le_trans B3.out.size B4.out.size)))
    obtain ⟨x2, c3, rfl, K2⟩ := bytes_own I5.out HI.out.bd
    obtain ⟨y2, d9, rfl⟩ := own_slice P5.out
    have L1 := Lib.hid (InpRow.turned HR.out BW.out); have L2 := Lib.hid (InpRow.own P5.out rfl)
    have K1 := Lib.hid (isB_old HI.out HLT.out BW.out); have K2 := Lib.hid K2
    have a0 := blk_cell D5 0; have a1' := blk_cell D5 1; have a2' := blk_cell D5 2
    have b0 := blk_cell C5.out 0; have b1 := blk_cell C5.out 1; have b2 := blk_cell C5.out 2
    simp at a0 a1' a2' b0 b1 b2
    have he := setup_same pages most seed
    have hnl := Lib.hid (show (l.length : Int) ≤ 9223372036854775807 by have := HL.out; omega)
    have hli := Lib.hid HI.out.hlen
    rw [hw5] at a0 a1' a2' b0 b1 b2
    have HW5 := Lib.hid hw5
    clear D5 hw5
    go_wp2_with fail
    rw [← HW5.out]
    clear HW5 I4 P4 B5 C5 I5 P5
    refine (same_bytes a1 x2 m _ c1 c3 img img _ K1.out K2.out).mono ?_
    rintro e w7 ⟨rfl, rfl⟩
    rw [show eqB img img = true by simp [eqB]]
    go_wp2_with fail
    obtain rfl := HL.out
    refine (Inp.plain a2 y2 l l.length c2 d9 rfl _ hn L1.out L2.out).mono ?_
    rintro e w8 ⟨rfl, hb8⟩
    have HB8 := Lib.hid (BW.out.trans (hb8.mono BW.out.size))
    clear hb8
    go_wp2_with fail
    go_ret
    exact ⟨rfl, HB8.out⟩
end Go.Proofs.YtoiffpoffnlebaaDoor
end
