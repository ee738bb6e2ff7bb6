/- The document's Sext, and Put from bit 0 on. No condition. The document's Field, Sext, Put as contracts that answer terms. No condition. A machine's load, its accesses as contracts of a run on terms. No condition. Methods of a machine over a memory, told by functions on numbers and the words that they put; such an answer as a contract. No condition. What a machine's method answers, as a contract of another run. No condition. The document's machine over its bytes, run on terms: what is known of it. No condition. The document's machine answers as the program's: the same terms of two runs, one behind the other. No condition. The laws' first test of the isa, run on terms. No condition. -/
import Derived.Test.YtkogjjeoihnjpaaGreatPack14
import Derived.StillTailTactics
import Derived.BigRegion
import Derived.Deep.RegionWith
import Derived.Deep.RegionHeld3
import Derived.Deep.QuietTactic
import Derived.BigQuiet
import Derived.Deep.LoopGhost
import Derived.Deep.DeepCutAuto
import Derived.Deep.DeepFit
import Derived.Deep.DeepMust
import Derived.Handy
import Derived.Test.YtkogjjeoihnjpaaGreatPack8
import Derived.Test.YtkogjjeoihnjpaaGreatPack13
import Derived.Test.YtkogjjeoihnjpaaGreatPack10
section
set_option linter.unusedVariables false
set_option linter.unusedSimpArgs false
namespace Go.Proofs.YtkogjjeoihnjpaaGreat
open Go.RowKit
/-- the lowest n bits, those from n to k as bit n - 1 -/
def sextK (v n k : Nat) : Nat := if v / 2 ^ (n - 1) % 2 = 1 then v % 2 ^ n + (2 ^ k - 2 ^ n) else v % 2 ^ n
theorem sextK_lt (v n k : Nat) (h : n ≤ k) : sextK v n k < 2 ^ k := by
  have h1 : v % 2 ^ n < 2 ^ n := Nat.mod_lt _ (Nat.two_pow_pos n)
  have h2 : 2 ^ n ≤ 2 ^ k := Nat.pow_le_pow_right (by omega) h
  unfold sextK
  split <;> omega
theorem sextK_step (v n k : Nat) (h : n ≤ k) (hb : v / 2 ^ (n - 1) % 2 = 1) : sextK v n k ||| 2 ^ k = sextK v n (k + 1) := by
  have h0 := sextK_lt v n k h
  have h2 : 2 ^ n ≤ 2 ^ k := Nat.pow_le_pow_right (by omega) h
  have h3 : 2 ^ (k + 1) = 2 * 2 ^ k := by rw [Nat.pow_succ]; omega
  have := Nat.two_pow_add_eq_or_of_lt h0 1
  rw [Nat.mul_one] at this
  rw [Nat.or_comm, ← this]
  unfold sextK
  rw [if_pos hb, if_pos hb]
  omega
theorem shl_one (k : Nat) (h : k ≤ 63) : IntKind.u64.wrap (2 ^ k) = ((2 ^ k : Nat) : Int) := by
  have : (2 : Nat) ^ k ≤ 2 ^ 63 := Nat.pow_le_pow_right (by omega) h
  rw [show (2 : Int) ^ k = ((2 ^ k : Nat) : Int) by rw [Int.natCast_pow]; rfl, IntKind.wrap_u64]
  generalize 2 ^ k = t at *
  omega
set_option maxRecDepth 100000 in
set_option maxHeartbeats 2000000 in
theorem ref_sext (v n : Nat) (hv : v < 2 ^ 64) (h1 : (1 : Int) ≤ n) (h63 : (n : Int) ≤ 63) (w : World) :
    Calls Tryz.prog 155 #[.int .u64 v, .int .i64 n] w fun e w' => e = .returned (.int .u64 (sextK v n 64 : Nat)) ∧ w = w' := by
  have HV := Lib.hid hv
  have HS := Lib.hid (fun k hk hb => sextK_step v n k hk hb)
  have HLT := Lib.hid (fun k hk => sextK_lt v n k hk)
  have H0 := Lib.hid (show sextK v n n = v % 2 ^ n by unfold sextK; split <;> omega)
  have HN := Lib.hid (show ¬ v / 2 ^ (n - 1) % 2 = 1 → sextK v n 64 = v % 2 ^ n from fun h => by unfold sextK; rw [if_neg h])
  have HF := Lib.hid (fun wq => ref_field v 0 (n - 1) hv (by omega) wq)
  rw [show ((0 : Nat) : Int) + ((n - 1 : Nat) : Int) = (n : Int) - 1 by omega, show n - 1 + 1 = n by omega, Nat.pow_zero, Nat.div_one] at HF
  have HB := Lib.hid (fun wq => ref_bit v (n - 1) hv (by omega) wq)
  rw [show ((n - 1 : Nat) : Int) = (n : Int) - 1 by omega] at HB
  clear hv
  generalize sextK v n = F at *
  generalize v / 2 ^ (n - 1) % 2 = B at *
  generalize v % 2 ^ n = M at *
  go_enter Tryz.func155, Tryz.ntmps155
  go_wp2_with fail
  refine (HF.out _).mono ?_
  rintro e w1 ⟨rfl, rfl⟩
  go_wp2_with fail
  go_loop [5, 6] (fun o i => ∃ k : Nat, n ≤ k ∧ (k : Int) ≤ 64 ∧ i = .int .i64 (k : Int) ∧ o = .int .u64 (F k : Nat) ∧ (B = 1 ∨ k = n)) (fun _ i => (64 - intOf i).toNat)
  case atStart => exact ⟨n, by omega, by omega, rfl, by rw [H0.out], .inr rfl⟩
  case round =>
    obtain ⟨k, hnk, hk, rfl, rfl, hbk⟩ := hrel
    have HBK := Lib.hid hbk
    clear hbk
    go_wp2_with fail
    refine (HB.out _).mono ?_
    rintro e w1 ⟨rfl, rfl⟩
    by_cases hb : B = 1
    · rw [decide_eq_true hb]
      by_cases hlt : (k : Int) < 64
      · have hsh := shl_one k (by omega)
        have hkw : IntKind.u64.wrap (k : Int) = k := by rw [IntKind.wrap_u64]; omega
        have hp : (2 : Nat) ^ k < 2 ^ 64 := Nat.pow_lt_pow_right (by omega) (by omega)
        have HOR := Lib.hid (u64_or_nat (F k) (2 ^ k) (Nat.lt_trans (HLT.out k hnk) hp) hp)
        clear hp
        rw [HS.out k hnk hb] at HOR
        have HBB := Lib.hid hb
        clear hb
        go_wp2_with fail
        rw [show (2 : Int) ^ k = ((2 ^ k : Nat) : Int) by rw [Int.natCast_pow]; rfl, HOR.out]
        exact ⟨⟨k + 1, by omega, by omega, congrArg (Value.int .i64) (by omega), rfl, .inl HBB.out⟩, by simp [intOf]; omega⟩
      · obtain rfl : k = 64 := by omega
        go_wp2_with fail
        go_ret
        exact ⟨rfl, rfl⟩
    · rw [decide_eq_false hb]
      have HKN : Hid (F k = F 64) := by
        show _ = _
        rcases HBK.out with h | h
        · exact absurd h hb
        · rw [h, H0.out, HN.out hb]
      clear hb
      go_wp2_with fail
      go_ret
      exact ⟨ret_int (by rw [HKN.out]), rfl⟩
/-- v, the lowest k bits those of x -/
def lowPut (v x k : Nat) : Nat := v / 2 ^ k * 2 ^ k + x % 2 ^ k
theorem lowPut_lt (v x k : Nat) (hv : v < 2 ^ 64) (hk : k ≤ 64) : lowPut v x k < 2 ^ 64 := by
  have h1 : x % 2 ^ k < 2 ^ k := Nat.mod_lt _ (Nat.two_pow_pos k)
  have h2 : (2 : Nat) ^ 64 = 2 ^ (64 - k) * 2 ^ k := by rw [← Nat.pow_add]; congr 1; omega
  have h3 : v / 2 ^ k < 2 ^ (64 - k) := by rw [Nat.div_lt_iff_lt_mul (Nat.two_pow_pos k), ← h2]; exact hv
  unfold lowPut
  have h4 : v / 2 ^ k * 2 ^ k + 2 ^ k ≤ 2 ^ (64 - k) * 2 ^ k := by
    have := Nat.mul_le_mul_right (2 ^ k) (show v / 2 ^ k + 1 ≤ 2 ^ (64 - k) by omega)
    rw [Nat.add_mul, Nat.one_mul] at this
    exact this
  omega
theorem lowPut_bit (v x k j : Nat) : (lowPut v x k).testBit j = if j < k then x.testBit j else v.testBit j := by
  unfold lowPut
  rw [Nat.mul_comm, Nat.testBit_two_pow_mul_add _ (Nat.mod_lt _ (Nat.two_pow_pos k))]
  split
  · rename_i h; rw [Nat.testBit_mod_two_pow]; simp [h]
  · rename_i h; rw [Nat.testBit_div_two_pow]; congr 1; omega
theorem off_bit (k j : Nat) (hk : k ≤ 63) : (18446744073709551615 - 2 ^ k).testBit j = (decide (j < 64) && !(decide (k = j))) := by
  have := Nat.testBit_two_pow_sub_succ (x := 2 ^ k) (n := 64) (Nat.pow_lt_pow_right (by omega) (by omega)) j
  rw [show (18446744073709551615 - 2 ^ k) = 2 ^ 64 - (2 ^ k + 1) by omega, this, Nat.testBit_two_pow]
theorem lowPut_off (v x k j : Nat) (hv : v < 2 ^ 64) (hk : k ≤ 63) : (lowPut v x k &&& (18446744073709551615 - 2 ^ k)).testBit j = (decide (k ≠ j) && (lowPut v x k).testBit j) := by
  rw [Nat.testBit_and, off_bit k j hk]
  by_cases h64 : j < 64
  · by_cases h : k = j <;> simp [h64, h]
  · have : (lowPut v x k).testBit j = false := Nat.testBit_lt_two_pow (Nat.lt_of_lt_of_le (lowPut_lt v x k hv (by omega)) (Nat.pow_le_pow_right (by decide) (by omega)))
    simp [this]
theorem lowPut_step1 (v x k : Nat) (hv : v < 2 ^ 64) (hk : k ≤ 63) (hb : x / 2 ^ k % 2 = 1) : (lowPut v x k &&& (18446744073709551615 - 2 ^ k)) ||| 2 ^ k = lowPut v x (k + 1) := by
  have hx : x.testBit k = true := by rw [Nat.testBit_eq_decide_div_mod_eq]; simpa using hb
  apply Nat.eq_of_testBit_eq
  intro j
  rw [Nat.testBit_or, lowPut_off v x k j hv hk, lowPut_bit, lowPut_bit, Nat.testBit_two_pow]
  by_cases h : k = j
  · subst h; simp [hx]
  · have : (j < k + 1) = (j < k) := by simp; omega
    simp [h, this]
theorem lowPut_step0 (v x k : Nat) (hv : v < 2 ^ 64) (hk : k ≤ 63) (hb : ¬ x / 2 ^ k % 2 = 1) : (lowPut v x k &&& (18446744073709551615 - 2 ^ k)) = lowPut v x (k + 1) := by
  have hx : x.testBit k = false := by rw [Nat.testBit_eq_decide_div_mod_eq]; simpa using hb
  apply Nat.eq_of_testBit_eq
  intro j
  rw [lowPut_off v x k j hv hk, lowPut_bit, lowPut_bit]
  by_cases h : k = j
  · subst h; simp [hx]
  · have : (j < k + 1) = (j < k) := by simp; omega
    simp [h, this]
set_option maxRecDepth 100000 in
set_option maxHeartbeats 2000000 in
theorem ref_put0 (v x n : Nat) (hv : v < 2 ^ 64) (hx : x < 2 ^ 64) (h1 : (1 : Int) ≤ n) (h63 : (n : Int) ≤ 63) (w : World) :
    Calls Tryz.prog 204 #[.int .u64 v, .int .i64 ((n : Int) - 1), .int .i64 0, .int .u64 x] w fun e w' => e = .returned (.int .u64 (lowPut v x n : Nat)) ∧ w = w' := by
  have HX := Lib.hid hx
  have HM := Lib.hid (fun wq => ref_may01 ((n : Int) - 1) 0 (by omega) (by omega) (by omega) wq)
  have H0 := Lib.hid (show lowPut v x 0 = v by unfold lowPut; simp [Nat.mod_one])
  have HLT := Lib.hid (fun k hk => lowPut_lt v x k hv hk)
  have HS1 := Lib.hid (fun k hk hb => lowPut_step1 v x k hv hk hb)
  have HS0 := Lib.hid (fun k hk hb => lowPut_step0 v x k hv hk hb)
  clear hv hx
  generalize lowPut v x = F at *
  go_enter Tryz.func204, Tryz.ntmps204
  go_wp2_with fail
  go_loop [0, 9] (fun o i => ∃ k : Nat, (k : Int) ≤ n ∧ i = .int .i64 (k : Int) ∧ o = .int .u64 (F k : Nat)) (fun _ i => ((n : Int) - intOf i).toNat)
  case atStart => exact ⟨0, by omega, rfl, by rw [H0.out]⟩
  case round =>
    obtain ⟨k, hk, rfl, rfl⟩ := hrel
    go_wp2_with fail
    refine (HM.out _).mono ?_
    rintro e w1 ⟨rfl, rfl⟩
    by_cases hlt : (k : Int) < n
    · have hsh := shl_one k (by omega)
      have hkw : IntKind.u64.wrap (k : Int) = k := by rw [IntKind.wrap_u64]; omega
      have hp : (2 : Nat) ^ k < 2 ^ 64 := Nat.pow_lt_pow_right (by omega) (by omega)
      have hF := HLT.out k (by omega)
      have HOFF := Lib.hid (u64_andNot_nat (F k) (2 ^ k) hF hp)
      have HB := Lib.hid (fun wq => ref_bit x k HX.out (by omega) wq)
      have H1 := Lib.hid (HS1.out k (by omega))
      have H0' := Lib.hid (HS0.out k (by omega))
      have hk64 : (k : Int) < 64 := by omega
      have HG : Hid (∀ G : Nat, F k &&& 18446744073709551615 - 2 ^ k = G → bits .or .u64 (G : Int) ((2 ^ k : Nat) : Int) = ((G ||| 2 ^ k : Nat) : Int)) := fun G hG => u64_or_nat G (2 ^ k) (by rw [← hG]; exact Nat.lt_of_le_of_lt Nat.and_le_left hF) hp
      clear hp hF
      go_wp2_with fail
      refine (HB.out _).mono ?_
      rintro e w1 ⟨rfl, rfl⟩
      rw [show (2 : Int) ^ k = ((2 ^ k : Nat) : Int) by rw [Int.natCast_pow]; rfl, HOFF.out]
      generalize hG : F k &&& 18446744073709551615 - 2 ^ k = G at *
      have HGG := Lib.hid (HG.out G rfl)
      by_cases hb : x / 2 ^ k % 2 = 1
      · rw [decide_eq_true hb]
        have e3 := H1.out hb
        clear hb
        go_wp2_with fail
        refine ⟨⟨k + 1, by omega, congrArg (Value.int .i64) (by omega), ?_⟩, by simp [intOf]; omega⟩
        rw [show (2 : Int) ^ k = ((2 ^ k : Nat) : Int) by rw [Int.natCast_pow]; rfl, HGG.out, e3]
      · rw [decide_eq_false hb]
        have e3 := H0'.out hb
        clear hb
        go_wp2_with fail
        exact ⟨⟨k + 1, by omega, congrArg (Value.int .i64) (by omega), rfl⟩, by simp [intOf]; omega⟩
    · obtain rfl : k = n := by omega
      go_wp2_with fail
      go_ret
      exact ⟨rfl, rfl⟩
end Go.Proofs.YtkogjjeoihnjpaaGreat
end
section
set_option linter.unusedVariables false
set_option linter.unusedSimpArgs false
namespace Go.Proofs.YtkogjjeoihnjpaaGreat.Sx
open Go Go.RowKit
noncomputable section
theorem and_nat (a b : Nat) (ha : a < 2 ^ 64) (hb : b < 2 ^ 64) : binD .and .u64 (a : Int) (b : Int) = ((a &&& b : Nat) : Int) := by
  show IntKind.u64.wrap (((BitVec.ofInt 64 (a : Int) &&& BitVec.ofInt 64 (b : Int)).toNat : Nat) : Int) = _
  rw [BitVec.ofInt_natCast, BitVec.ofInt_natCast, BitVec.toNat_and, BitVec.toNat_ofNat, BitVec.toNat_ofNat, Nat.mod_eq_of_lt ha, Nat.mod_eq_of_lt hb, IntKind.wrap_u64]
  have : a &&& b < 2 ^ 64 := Nat.lt_of_le_of_lt Nat.and_le_left ha
  omega
theorem or_nat (a b : Nat) (ha : a < 2 ^ 64) (hb : b < 2 ^ 64) : binD .or .u64 (a : Int) (b : Int) = ((a ||| b : Nat) : Int) := by
  show IntKind.u64.wrap (((BitVec.ofInt 64 (a : Int) ||| BitVec.ofInt 64 (b : Int)).toNat : Nat) : Int) = _
  rw [BitVec.ofInt_natCast, BitVec.ofInt_natCast, BitVec.toNat_or, BitVec.toNat_ofNat, BitVec.toNat_ofNat, Nat.mod_eq_of_lt ha, Nat.mod_eq_of_lt hb, IntKind.wrap_u64]
  have : a ||| b < 2 ^ 64 := Nat.or_lt_two_pow ha hb
  omega
theorem shr_nat (a k : Nat) (hk : k ≤ 64) : binD .shr .u64 (a : Int) (k : Int) = ((a / 2 ^ k : Nat) : Int) := by
  show (a : Int).fdiv (2 ^ (min (k : Int).toNat 64)) = _
  rw [Int.toNat_natCast, Nat.min_eq_left hk, Int.fdiv_eq_ediv_of_nonneg _ (Int.pow_nonneg (by decide)), Int.natCast_ediv, Int.natCast_pow]
  rfl
theorem ones_lt (d : Nat) (h : d ≤ 64) : 2 ^ d - 1 < 2 ^ 64 := by
  have : (2 : Nat) ^ d ≤ 2 ^ 64 := Nat.pow_le_pow_right (by omega) h
  have := Nat.two_pow_pos d
  omega
def fieldE (v : E) (lo m : Nat) : E := mkBin .and .u64 (mkBin .shr .u64 v (.lit (.ofNat lo))) (.lit (.ofNat m))
theorem fieldE_ok {V : Env} {d : Nat → Prop} {v : E} (hv : v.sc V d) {n : Nat} (hn : v.den V = n) (h64 : n < 2 ^ 64) {lo b : Nat} (hl : lo ≤ 63) (hb : b ≤ 64) : (fieldE v lo (2 ^ b - 1)).sc V d ∧ (fieldE v lo (2 ^ b - 1)).den V = ((n / 2 ^ lo % 2 ^ b : Nat) : Int) := by
  obtain ⟨s1, s2⟩ := mkBin_ok .shr .u64 (b := .lit (.ofNat lo)) hv trivial
  obtain ⟨t1, t2⟩ := mkBin_ok .and .u64 (b := .lit (.ofNat (2 ^ b - 1))) s1 (V := V) (d := d) trivial
  refine ⟨t1, ?_⟩
  unfold fieldE
  rw [t2, s2, hn, den_lit, den_lit]
  show binD .and .u64 (binD .shr .u64 (n : Int) (lo : Int)) ((2 ^ b - 1 : Nat) : Int) = _
  rw [shr_nat n lo (by omega), and_nat _ _ (Nat.lt_of_le_of_lt (Nat.div_le_self _ _) h64) (ones_lt b hb), Nat.and_two_pow_sub_one_eq_mod]
def fieldOrc : Orc := fun f args hp =>
  bif Nat.beq f 153 then
    match args with
    | [.pv (.one (.int .u64 v)), .pv (.one (.int .i64 (.lit (.ofNat hi)))), .pv (.one (.int .i64 (.lit (.ofNat lo))))] =>
      bif inRs hp.gh.k [U] [v] then (bif Nat.ble lo hi then (bif Nat.ble hi 63 then some (natK (2 ^ (hi - lo + 1) - 1) fun m => eK (fieldE v lo m) fun e => .ret (.pv (.one (.int .u64 e)), hp)) else some (.bad "field")) else some (.bad "field")) else some (.bad "field of what")
    | _ => some (.bad "field where")
  else none
theorem inU {C : Ctx} {hp : Hp} {w : World} (h : HRel C hp w) {v : E} (hs : v.sc C.V C.vd) (hin : inRs hp.gh.k [U] [v] = true) : ∃ n : Nat, v.den C.V = n ∧ n < 2 ^ 64 := by
  have hxr := (inRs_ok h.ks hin (fun y hy => by rw [List.mem_singleton.1 hy]; exact hs)).2 0 U (v.den C.V) rfl rfl
  have hx0 : (0 : Int) ≤ v.den C.V := hxr.1
  have hx1 : v.den C.V ≤ (18446744073709551615 : Int) := hxr.2
  exact ⟨(v.den C.V).toNat, by omega, by omega⟩
theorem fieldOrc_ok (X : Ext) (ft : Ft) : OrcOk Tryz.prog X ft fieldOrc := by
  intro f args hp t h0 C w vs hC h hv
  unfold fieldOrc at h0
  cases hb : Nat.beq f 153 with
  | false => rw [hb, cond_false] at h0; cases h0
  | true =>
    rw [hb, cond_true] at h0
    have hff : f = 153 := Nat.eq_of_beq_eq_true hb
    subst hff
    split at h0
    · rename_i v hi lo
      cases hin : inRs hp.gh.k [U] [v] with
      | false => rw [hin, cond_false] at h0; cases h0; exact CallOk.bad
      | true =>
      rw [hin, cond_true] at h0
      cases h1 : Nat.ble lo hi with
      | false => rw [h1, cond_false] at h0; cases h0; exact CallOk.bad
      | true =>
      rw [h1, cond_true] at h0
      cases h2 : Nat.ble hi 63 with
      | false => rw [h2, cond_false] at h0; cases h0; exact CallOk.bad
      | true =>
      rw [h2, cond_true] at h0
      cases h0
      have h1 := Nat.le_of_ble_eq_true h1
      have h2 := Nat.le_of_ble_eq_true h2
      cases hv with
      | @cons _ v1 _ vs1 q1 q2 =>
      cases q2 with
      | @cons _ v2 _ vs2 q2 q3 =>
      cases q3 with
      | @cons _ v3 _ vs3 q3 q4 =>
      cases q4
      obtain ⟨s1, rfl⟩ := q1
      obtain ⟨s2, rfl⟩ := q2
      obtain ⟨s3, rfl⟩ := q3
      obtain ⟨n, hn, h64⟩ := inU h s1 hin
      intro Φ hx
      rw [natK_eq, eK_eq] at hx
      obtain ⟨d, rfl⟩ : ∃ d, hi = lo + d := ⟨hi - lo, by omega⟩
      rw [show lo + d - lo + 1 = d + 1 by omega] at hx
      obtain ⟨k1, k2⟩ := fieldE_ok s1 hn h64 (lo := lo) (b := d + 1) (by omega) (by omega)
      rw [den_lit, den_lit, hn]
      refine (ref_field n lo d h64 (by omega) w).mono ?_
      rintro e w' ⟨rfl, rfl⟩
      exact ⟨C, _, .pv (.one (.int .u64 (fieldE v lo (2 ^ (d + 1) - 1)))), hp, rfl, ⟨k1, by rw [k2]⟩, h, .refl C w, hx⟩
    · cases h0; exact CallOk.bad
/-! ### Sext -/
def sextE (v : E) (s : Nat) : E := mkCast .u64 (mkBin .shr .i64 (mkCast .i64 (mkBin .shl .u64 v (.lit (.ofNat s)))) (.lit (.ofNat s)))
theorem sext_num (v n : Nat) (hv : v < 2 ^ 64) (h1 : 1 ≤ n) (h63 : n ≤ 63) : IntKind.u64.wrap ((IntKind.i64.wrap (IntKind.u64.wrap ((v : Int) * 2 ^ (64 - n)))).fdiv (2 ^ (64 - n))) = ((sextK v n 64 : Nat) : Int) := by
  obtain ⟨s, hs⟩ : ∃ s, 64 - n = s := ⟨_, rfl⟩
  obtain ⟨a, ha⟩ : ∃ a, n = a + 1 := ⟨n - 1, by omega⟩
  have hp : (2 : Nat) ^ n * 2 ^ s = 2 ^ 64 := by rw [← Nat.pow_add]; congr 1; omega
  have hpa : (2 : Nat) ^ n = 2 * 2 ^ a := by rw [ha, Nat.pow_succ]; omega
  have hm : v % 2 ^ n = v % 2 ^ a + 2 ^ a * (v / 2 ^ a % 2) := by rw [ha, Nat.pow_succ, Nat.mod_mul]
  have hma : v % 2 ^ a < 2 ^ a := Nat.mod_lt _ (Nat.two_pow_pos a)
  have hsp := Nat.two_pow_pos s
  have e1 : IntKind.u64.wrap ((v : Int) * 2 ^ s) = ((v % 2 ^ n * 2 ^ s : Nat) : Int) := by
    rw [show (v : Int) * 2 ^ s = ((v * 2 ^ s : Nat) : Int) by rw [Int.natCast_mul, Int.natCast_pow]; rfl, IntKind.wrap_u64]
    have : v * 2 ^ s % 2 ^ 64 = v % 2 ^ n * 2 ^ s := by rw [← hp, Nat.mul_mod_mul_right]
    omega
  rw [hs, e1]
  have e2 : (2 : Int) ^ s = ((2 ^ s : Nat) : Int) := by rw [Int.natCast_pow]; rfl
  have hmn : v % 2 ^ n < 2 ^ n := Nat.mod_lt _ (Nat.two_pow_pos n)
  unfold sextK
  rw [show n - 1 = a by omega]
  have h2a : 2 ^ a * 2 ^ s = 2 ^ 63 := by rw [← Nat.pow_add]; congr 1; omega
  have hle : 2 ^ n ≤ 2 ^ 63 := Nat.pow_le_pow_right (by omega) h63
  by_cases hb : v / 2 ^ a % 2 = 1
  · rw [if_pos hb]
    rw [hb, Nat.mul_one] at hm
    have hge : 2 ^ 63 ≤ v % 2 ^ n * 2 ^ s := by rw [← h2a]; exact Nat.mul_le_mul_right _ (by omega)
    have hlt : v % 2 ^ n * 2 ^ s < 2 ^ 64 := by rw [← hp]; exact Nat.mul_lt_mul_of_pos_right hmn hsp
    have e3 : IntKind.i64.wrap ((v % 2 ^ n * 2 ^ s : Nat) : Int) = (((v % 2 ^ n : Nat) : Int) - ((2 ^ n : Nat) : Int)) * ((2 ^ s : Nat) : Int) := by
      rw [Int.sub_mul, ← Int.natCast_mul, ← Int.natCast_mul, hp, IntKind.wrap_i64]
      omega
    rw [e3, e2, Int.mul_fdiv_cancel _ (by omega), IntKind.wrap_u64]
    omega
  · rw [if_neg hb]
    have hb0 : v / 2 ^ a % 2 = 0 := by omega
    rw [hb0, Nat.mul_zero, Nat.add_zero] at hm
    have hlt : v % 2 ^ n * 2 ^ s < 2 ^ 63 := by rw [← h2a]; exact Nat.mul_lt_mul_of_pos_right (by omega) hsp
    have e3 : IntKind.i64.wrap ((v % 2 ^ n * 2 ^ s : Nat) : Int) = ((v % 2 ^ n : Nat) : Int) * ((2 ^ s : Nat) : Int) := by
      rw [← Int.natCast_mul, IntKind.wrap_i64]
      omega
    rw [e3, e2, Int.mul_fdiv_cancel _ (by omega), IntKind.wrap_u64]
    omega
theorem sextE_ok {V : Env} {d : Nat → Prop} {v : E} (hv : v.sc V d) {x : Nat} (hn : v.den V = x) (h64 : x < 2 ^ 64) {n : Nat} (h1 : 1 ≤ n) (h63 : n ≤ 63) : (sextE v (64 - n)).sc V d ∧ (sextE v (64 - n)).den V = ((sextK x n 64 : Nat) : Int) := by
  obtain ⟨s1, s2⟩ := mkBin_ok .shl .u64 (b := .lit (.ofNat (64 - n))) hv trivial
  obtain ⟨t1, t2⟩ := mkCast_ok .i64 s1
  obtain ⟨u1, u2⟩ := mkBin_ok .shr .i64 (b := .lit (.ofNat (64 - n))) t1 trivial
  obtain ⟨w1, w2⟩ := mkCast_ok .u64 u1
  refine ⟨w1, ?_⟩
  unfold sextE
  rw [w2, u2, t2, s2, hn, den_lit]
  show IntKind.u64.wrap ((IntKind.i64.wrap (IntKind.u64.wrap ((x : Int) * 2 ^ (min (((64 - n : Nat) : Int)).toNat 64)))).fdiv (2 ^ (min (((64 - n : Nat) : Int)).toNat 64))) = _
  rw [Int.toNat_natCast, Nat.min_eq_left (show 64 - n ≤ 64 by omega)]
  exact sext_num x n h64 h1 h63
def sextOrc : Orc := fun f args hp =>
  bif Nat.beq f 155 then
    match args with
    | [.pv (.one (.int .u64 v)), .pv (.one (.int .i64 (.lit (.ofNat n))))] =>
      bif inRs hp.gh.k [U] [v] then (bif Nat.ble 1 n then (bif Nat.ble n 63 then some (natK (64 - n) fun m => eK (sextE v m) fun e => .ret (.pv (.one (.int .u64 e)), hp)) else none) else some (.bad "sext")) else some (.bad "sext of what")
    | _ => some (.bad "sext where")
  else none
theorem sextOrc_ok (X : Ext) (ft : Ft) : OrcOk Tryz.prog X ft sextOrc := by
  intro f args hp t h0 C w vs hC h hv
  unfold sextOrc at h0
  cases hb : Nat.beq f 155 with
  | false => rw [hb, cond_false] at h0; cases h0
  | true =>
    rw [hb, cond_true] at h0
    have hff : f = 155 := Nat.eq_of_beq_eq_true hb
    subst hff
    split at h0
    · rename_i v n
      cases hin : inRs hp.gh.k [U] [v] with
      | false => rw [hin, cond_false] at h0; cases h0; exact CallOk.bad
      | true =>
      rw [hin, cond_true] at h0
      cases h1 : Nat.ble 1 n with
      | false => rw [h1, cond_false] at h0; cases h0; exact CallOk.bad
      | true =>
      rw [h1, cond_true] at h0
      cases h2 : Nat.ble n 63 with
      | false => rw [h2, cond_false] at h0; cases h0
      | true =>
      rw [h2, cond_true] at h0
      cases h0
      have h1 := Nat.le_of_ble_eq_true h1
      have h2 := Nat.le_of_ble_eq_true h2
      cases hv with
      | @cons _ v1 _ vs1 q1 q2 =>
      cases q2 with
      | @cons _ v2 _ vs2 q2 q3 =>
      cases q3
      obtain ⟨s1, rfl⟩ := q1
      obtain ⟨s2, rfl⟩ := q2
      obtain ⟨x, hn, h64⟩ := inU h s1 hin
      intro Φ hx
      rw [natK_eq, eK_eq] at hx
      obtain ⟨k1, k2⟩ := sextE_ok s1 hn h64 h1 h2
      rw [den_lit, hn]
      refine (ref_sext x n h64 (by omega) (by omega) w).mono ?_
      rintro e w' ⟨rfl, rfl⟩
      exact ⟨C, _, .pv (.one (.int .u64 (sextE v (64 - n)))), hp, rfl, ⟨k1, by rw [k2]⟩, h, .refl C w, hx⟩
    · cases h0; exact CallOk.bad
/-! ### Put from bit 0 on -/
def putE (v x : E) (n m : Nat) : E := mkBin .or .u64 (mkBin .shl .u64 (mkBin .shr .u64 v (.lit (.ofNat n))) (.lit (.ofNat n))) (mkBin .and .u64 x (.lit (.ofNat m)))
theorem putE_ok {V : Env} {d : Nat → Prop} {v x : E} (hv : v.sc V d) (hx : x.sc V d) {a b : Nat} (ha : v.den V = a) (hb : x.den V = b) (a64 : a < 2 ^ 64) (b64 : b < 2 ^ 64) {n : Nat} (h63 : n ≤ 63) : (putE v x n (2 ^ n - 1)).sc V d ∧ (putE v x n (2 ^ n - 1)).den V = ((lowPut a b n : Nat) : Int) := by
  obtain ⟨s1, s2⟩ := mkBin_ok .shr .u64 (b := .lit (.ofNat n)) hv trivial
  obtain ⟨t1, t2⟩ := mkBin_ok .shl .u64 (b := .lit (.ofNat n)) s1 trivial
  obtain ⟨u1, u2⟩ := mkBin_ok .and .u64 (b := .lit (.ofNat (2 ^ n - 1))) hx (V := V) (d := d) trivial
  obtain ⟨w1, w2⟩ := mkBin_ok .or .u64 t1 u1
  refine ⟨w1, ?_⟩
  unfold putE
  rw [w2, t2, s2, u2, ha, hb, den_lit, den_lit]
  show binD .or .u64 (binD .shl .u64 (binD .shr .u64 (a : Int) (n : Int)) (n : Int)) (binD .and .u64 (b : Int) ((2 ^ n - 1 : Nat) : Int)) = _
  rw [shr_nat a n (by omega), and_nat b _ b64 (ones_lt n (by omega)), Nat.and_two_pow_sub_one_eq_mod]
  have hle : a / 2 ^ n * 2 ^ n < 2 ^ 64 := Nat.lt_of_le_of_lt (Nat.div_mul_le_self _ _) a64
  have e1 : binD .shl .u64 ((a / 2 ^ n : Nat) : Int) (n : Int) = ((a / 2 ^ n * 2 ^ n : Nat) : Int) := by
    show IntKind.u64.wrap (((a / 2 ^ n : Nat) : Int) * 2 ^ (min (n : Int).toNat 64)) = _
    rw [Int.toNat_natCast, Nat.min_eq_left (by omega), show ((a / 2 ^ n : Nat) : Int) * 2 ^ n = ((a / 2 ^ n * 2 ^ n : Nat) : Int) by rw [Int.natCast_mul, Int.natCast_pow]; rfl, IntKind.wrap_u64]
    omega
  have hm : b % 2 ^ n < 2 ^ n := Nat.mod_lt _ (Nat.two_pow_pos n)
  rw [e1, or_nat _ _ hle (Nat.lt_trans hm (Nat.pow_lt_pow_right (by omega) (by omega)))]
  unfold lowPut
  rw [Nat.mul_comm, Nat.two_pow_add_eq_or_of_lt hm]
def putfOrc : Orc := fun f args hp =>
  bif Nat.beq f 204 then
    match args with
    | [.pv (.one (.int .u64 v)), .pv (.one (.int .i64 (.lit (.ofNat hi)))), .pv (.one (.int .i64 (.lit (.ofNat 0)))), .pv (.one (.int .u64 x))] =>
      bif inRs hp.gh.k [U] [v] then (bif inRs hp.gh.k [U] [x] then (bif Nat.ble hi 62 then some (natK (2 ^ (hi + 1) - 1) fun m => natK (hi + 1) fun n => eK (putE v x n m) fun e => .ret (.pv (.one (.int .u64 e)), hp)) else some (.bad "putf")) else some (.bad "putf of what")) else some (.bad "putf of what")
    | _ => some (.bad "putf where")
  else none
theorem putfOrc_ok (X : Ext) (ft : Ft) : OrcOk Tryz.prog X ft putfOrc := by
  intro f args hp t h0 C w vs hC h hv
  unfold putfOrc at h0
  cases hb : Nat.beq f 204 with
  | false => rw [hb, cond_false] at h0; cases h0
  | true =>
    rw [hb, cond_true] at h0
    have hff : f = 204 := Nat.eq_of_beq_eq_true hb
    subst hff
    split at h0
    · rename_i v hi x
      cases hin : inRs hp.gh.k [U] [v] with
      | false => rw [hin, cond_false] at h0; cases h0; exact CallOk.bad
      | true =>
      rw [hin, cond_true] at h0
      cases hin2 : inRs hp.gh.k [U] [x] with
      | false => rw [hin2, cond_false] at h0; cases h0; exact CallOk.bad
      | true =>
      rw [hin2, cond_true] at h0
      cases h2 : Nat.ble hi 62 with
      | false => rw [h2, cond_false] at h0; cases h0; exact CallOk.bad
      | true =>
      rw [h2, cond_true] at h0
      cases h0
      have h2 := Nat.le_of_ble_eq_true h2
      cases hv with
      | @cons _ v1 _ vs1 q1 q2 =>
      cases q2 with
      | @cons _ v2 _ vs2 q2 q3 =>
      cases q3 with
      | @cons _ v3 _ vs3 q3 q4 =>
      cases q4 with
      | @cons _ v4 _ vs4 q4 q5 =>
      cases q5
      obtain ⟨s1, rfl⟩ := q1
      obtain ⟨s2, rfl⟩ := q2
      obtain ⟨s3, rfl⟩ := q3
      obtain ⟨s4, rfl⟩ := q4
      obtain ⟨a, ha, a64⟩ := inU h s1 hin
      obtain ⟨b, hb, b64⟩ := inU h s4 hin2
      intro Φ hx
      rw [natK_eq, natK_eq, eK_eq] at hx
      obtain ⟨k1, k2⟩ := putE_ok s1 s4 ha hb a64 b64 (n := hi + 1) (by omega)
      rw [den_lit, den_lit, ha, hb]
      have := ref_put0 a b (hi + 1) a64 b64 (by omega) (by omega) w
      rw [show (((hi + 1 : Nat) : Int) - 1) = (Int.ofNat hi) by simp only [Int.ofNat_eq_natCast]; omega] at this
      refine this.mono ?_
      rintro e w' ⟨rfl, rfl⟩
      exact ⟨C, _, .pv (.one (.int .u64 (putE v x (hi + 1) (2 ^ (hi + 1) - 1)))), hp, rfl, ⟨k1, by rw [k2]⟩, h, .refl C w, hx⟩
    · cases h0; exact CallOk.bad
/-! ### the granule of a place -/
theorem ref_granule (x : Int) (x0 : 0 ≤ x) (x1 : x < 18446744073709551616) (w : World) : Calls Tryz.prog 154 #[.int .u64 x] w fun e w' => e = .returned (.int .u64 (x / 8 * 8)) ∧ w = w' := by
  have e1 : IntKind.u64.wrap (x - x % 8) = x / 8 * 8 := by rw [IntKind.wrap_u64]; omega
  clear x1
  go_enter Tryz.func154, Tryz.ntmps154
  go_wp2
  go_ret
  exact ⟨rfl, rfl⟩
def granOrc : Orc := fun f args hp =>
  bif Nat.beq f 154 then
    match args with
    | [.pv (.one (.int .u64 v))] => bif inRs hp.gh.k [U] [v] then some (eK (.pl .mul (.pl .quo v (.lit (.ofNat 8))) (.lit (.ofNat 8))) fun e => .ret (.pv (.one (.int .u64 e)), hp)) else some (.bad "granule of what")
    | _ => some (.bad "granule")
  else none
theorem granOrc_ok (X : Ext) (ft : Ft) : OrcOk Tryz.prog X ft granOrc := by
  intro f args hp t h0 C w vs hC h hv
  unfold granOrc at h0
  cases hb : Nat.beq f 154 with
  | false => rw [hb, cond_false] at h0; cases h0
  | true =>
    rw [hb, cond_true] at h0
    have hff : f = 154 := Nat.eq_of_beq_eq_true hb
    subst hff
    split at h0
    · rename_i v
      cases hin : inRs hp.gh.k [U] [v] with
      | false => rw [hin, cond_false] at h0; cases h0; exact CallOk.bad
      | true =>
      rw [hin, cond_true] at h0
      cases h0
      cases hv with
      | @cons _ v1 _ vs1 q1 q2 =>
      cases q2
      obtain ⟨s1, rfl⟩ := q1
      obtain ⟨n, hn, h64⟩ := inU h s1 hin
      intro Φ hx
      rw [eK_eq] at hx
      refine (ref_granule (v.den C.V) (by omega) (by omega) w).mono ?_
      rintro e w' ⟨rfl, rfl⟩
      exact ⟨C, _, .pv (.one (.int .u64 (.pl .mul (.pl .quo v (.lit (.ofNat 8))) (.lit (.ofNat 8))))), hp, rfl, ⟨⟨⟨s1, trivial⟩, trivial⟩, rfl⟩, h, .refl C w, hx⟩
    · cases h0; exact CallOk.bad
end
end Go.Proofs.YtkogjjeoihnjpaaGreat.Sx
end
section
set_option linter.unusedVariables false
set_option linter.unusedSimpArgs false
namespace Go.Proofs.YtkogjjeoihnjpaaGreat.Sx
open Go Go.RowKit
noncomputable section
/-- is that a machine over the memory outside? -/
def machRow (hp : Hp) (r0 : Nat) : SV → Bool
  | .pv (.one (.ptr q o)) => bif Nat.beq o 0 then (match hget hp.H q with
    | some (.cells row T es false) => bif Nat.beq T 94 then (bif Nat.beq row.length 67 then (match row.drop 66 with
      | [.ext i] => Nat.beq i r0
      | _ => false) else false) else false
    | _ => false) else false
  | _ => false
def loadF (ct : Nat → Nat) : List Int → List Int
  | n :: x :: k :: r => [(loadN n.toNat (putsL n.toNat ct r) x k.toNat : Nat)]
  | _ => [0]
def loadOrc (f0 : FuncId) (r0 : Nat) : Orc := fun f args hp =>
  bif Nat.beq f f0 then
    match args with
    | [p, .pv (.one (.int .u64 x)), .pv (.one (.int .i64 k))] => bif machRow hp r0 p then (match hp.gh.m with
      | n :: r => bif inRs hp.gh.k [U, R 8] [x, k] then some (xlets hp 3 (n :: x :: k :: r) [U] (fun _ => []) fun vs hp => match vs with
        | [v] => eK v fun v => .ret (.pv (.one (.int .u64 v)), hp)
        | _ => .bad "load") else some (.bad "load where")
      | _ => some (.bad "load of what")) else some (.bad "load of which")
    | _ => some (.bad "load")
  else none
/-- how the world goes on: the memory, and no block beside it but p -/
def MachTo (w w' : World) (b n : Nat) (ct : Nat → Nat) (S : Nat → Prop) (p : Nat) : Prop :=
  ∃ S', RamAt w' b n ct S' ∧ Turned (fun g => g = p ∨ g = b ∨ S g) w w' ∧ ∀ g, S' g → S g ∨ w.heap.size ≤ g
section
variable {b n : Nat} {ct : Nat → Nat} {px : Nat → Option Value} {r0 : Nat} {ft : Ft}
theorem machRow_ok {C : Ctx} {hp : Hp} {w : World} (hC : C.Is (ramX b n ct px) ft) (hp0 : px r0 = some (.pointer (some ⟨b, 0, none⟩))) (h : HRel C hp w) {p : SV} {v : Value} (hb : machRow hp r0 p = true) (hr : p.rel C v) :
    ∃ g q c cs, v = .pointer (some ⟨g, 0, none⟩) ∧ C.bl q = some (g, c) ∧ MachAt w g b cs ∧ (∀ x ∈ cs, x.oneCell' = true) ∧ ¬ C.S g := by
  unfold machRow at hb
  split at hb
  · rename_i q o
    obtain ⟨h0, hb1⟩ := and_bif hb
    have h0 : o = 0 := Nat.eq_of_beq_eq_true h0
    split at hb1
    · rename_i row T es hget
      obtain ⟨h1, hb2⟩ := and_bif hb1
      obtain ⟨h2, hb3⟩ := and_bif hb2
      have h1 : T = 94 := Nat.eq_of_beq_eq_true h1
      have h2 : row.length = 67 := Nat.eq_of_beq_eq_true h2
      split at hb3
      · rename_i i hdrop
        have hi : i = r0 := Nat.eq_of_beq_eq_true hb3
        clear hb hb1 hb2 hb3
        subst h0 h1 hi
        obtain ⟨g, c, hg, vs, sp, k1, k2, k3, _, k5⟩ := h.at_ q _ hget
        obtain ⟨g', c', hg', rfl⟩ := hr
        rw [hg] at hg'; cases hg'
        have hl := k1.length
        have hd := k1.drop 66
        rw [hdrop] at hd
        obtain ⟨u, hu⟩ : ∃ u, u = vs.drop 66 := ⟨_, rfl⟩
        rw [← hu] at hd
        cases hd with
        | cons q1 q2 =>
          cases q2
          rename_i v0
          have hv0 : v0 = .pointer (some ⟨b, 0, none⟩) := by rw [q1.2.1]; exact (hC.2.2 _ _ hp0).2
          have hvs : vs = vs.take 66 ++ [Value.pointer (some ⟨b, 0, none⟩)] := by rw [← hv0, hu, List.take_append_drop]
          refine ⟨g, q, c, vs.take 66, rfl, hg, ⟨by simp; omega, ?_⟩, fun x hx => ?_, h.apart q _ g c hget hg⟩
          · rw [k2, k3 rfl, List.append_nil, ← hvs]
          · obtain ⟨j, hj⟩ := List.getElem?_of_mem (List.mem_of_mem_take hx)
            obtain ⟨a, ha, har⟩ := k1.getR j x hj
            exact har.one (List.all_eq_true.1 k5 a (List.mem_of_getElem? ha))
      · cases hb3
    · cases hb1
  · cases hb
theorem loadF_in {x k : Int} {r : List Int} (h : ∀ i, putsL n ct r i < 256) (hk : k ≤ 8) : InB [U] (loadF ct ((n : Int) :: x :: k :: r)) := by
  refine ⟨rfl, fun j q m hj hm => ?_⟩
  match j with
  | 0 =>
    cases hj
    simp only [loadF, List.getElem?_cons_zero, Option.some.injEq, Int.toNat_natCast] at hm
    have := loadN_lt (n := n) h (x := x) (k := k.toNat) (by omega)
    subst hm
    exact ⟨by show (0 : Int) ≤ _; omega, by show _ ≤ (18446744073709551615 : Int); omega⟩
  | j + 1 => simp at hj
theorem loadOrc_ok (hp0 : px r0 = some (.pointer (some ⟨b, 0, none⟩))) (hf : ft 3 = loadF ct) : OrcOk Tryz.prog (ramX b n ct px) ft (loadOrc 65 r0) := by
  intro f args hp t h0 C w vs hC h hv
  unfold loadOrc at h0
  cases hb : Nat.beq f 65 with
  | false => rw [hb, cond_false] at h0; cases h0
  | true =>
    rw [hb, cond_true] at h0
    have hff : f = 65 := Nat.eq_of_beq_eq_true hb
    subst hff
    split at h0
    · rename_i p x k
      cases hi : machRow hp r0 p with
      | false => rw [hi, cond_false] at h0; cases h0; exact CallOk.bad
      | true =>
        rw [hi, cond_true] at h0
        split at h0
        · rename_i e r hm
          cases hin : inRs hp.gh.k [U, R 8] [x, k] with
          | false => rw [hin, cond_false] at h0; cases h0; exact CallOk.bad
          | true =>
            rw [hin, cond_true] at h0
            cases h0
            cases hv with
            | @cons _ v1 _ vs1 q1 q2 =>
            cases q2 with
            | @cons _ v2 _ vs2 q2 q3 =>
            cases q3 with
            | @cons _ v3 _ vs3 q3 q4 =>
            cases q4
            obtain ⟨g, q, c, cs, rfl, hg, hmach, _, _⟩ := machRow_ok hC hp0 h hi q1
            obtain ⟨s2, rfl⟩ := q2
            obtain ⟨s3, rfl⟩ := q3
            obtain ⟨g1, g2, g3, S, g4, g5⟩ := gh_mem hC h hm
            intro Φ hx
            have hxs := inRs_ok h.ks hin (fun y hy => by
              rcases List.mem_cons.1 hy with rfl | hy
              · exact s2
              · rw [List.mem_singleton.1 hy]; exact s3)
            have hx0 : (0 : Int) ≤ x.den C.V := (hxs.2 0 U (x.den C.V) rfl rfl).1
            have hx1 : x.den C.V ≤ (18446744073709551615 : Int) := (hxs.2 0 U (x.den C.V) rfl rfl).2
            have hk0 : (0 : Int) ≤ k.den C.V := (hxs.2 1 (R 8) (k.den C.V) rfl rfl).1
            have hk1 : k.den C.V ≤ (8 : Int) := (hxs.2 1 (R 8) (k.den C.V) rfl rfl).2
            have hin2 : InB [U] (C.V.f 3 ((e :: x :: k :: r).map (E.den C.V))) := by
              rw [hC.1, hf]
              simp only [List.map_cons, g1]
              exact loadF_in g4.bd hk1
            obtain ⟨C', hp', outs, n1, n2, n3, n4, n5, _⟩ := xlets_ok h (fun y hy => by
              rcases List.mem_cons.1 hy with rfl | hy
              · exact g3
              rcases List.mem_cons.1 hy with rfl | hy
              · exact s2
              rcases List.mem_cons.1 hy with rfl | hy
              · exact s3
              · exact g2 y hy) hin2 (fun _ _ _ _ _ q hq => by cases hq) hx
            rw [hC.1, hf] at n4
            simp only [List.map_cons, g1, loadF, Int.toNat_natCast] at n4
            split at n5
            · rename_i v
              rw [eK_eq] at n5
              simp only [List.map_cons, List.map_nil, List.cons.injEq, and_true] at n4
              obtain ⟨kn, hkn⟩ : ∃ kn : Nat, k.den C.V = kn := ⟨(k.den C.V).toNat, by omega⟩
              rw [hkn] at n4 ⊢
              rw [Int.toNat_natCast] at n4
              refine (isa_load hmach g4 (x.den C.V) hx0 (by omega) kn (by omega)).mono ?_
              rintro e' w' ⟨rfl, hbel⟩
              obtain ⟨k1, k2⟩ := n1.below' hbel
              refine ⟨C', _, .pv (.one (.int .u64 v)), hp', rfl, ⟨n3 v (by simp), ?_⟩, k1, n2.trans k2, n5⟩
              rw [n4]
            · exact n5.elim
        · cases h0; exact CallOk.bad
    · cases h0; exact CallOk.bad
/-- the memory that is told turns, and nothing else that is known -/
theorem HRel.memTo {C : Ctx} {hp : Hp} {w w' : World} (hC : C.Is (ramX b n ct px) ft) (h : HRel C hp w) {m : List E} (hs : ∀ e ∈ m, e.sc C.V C.vd) {r : List Int} (hd : m.map (E.den C.V) = (n : Int) :: r) {S' : Nat → Prop} (hr : RamAt w' b n (putsL n ct r) S')
    (hsz : w.heap.size ≤ w'.heap.size) (h1 : w'.tape = w.tape) (h2 : w'.os = w.os) (h3 : w'.output = w.output) (hk : ∀ g, g < w.heap.size → ¬ C.S g → w'.heap[g]? = w.heap[g]?) (hS : ∀ g, S' g → C.S g ∨ w.heap.size ≤ g) (hbS : C.S b) :
    ∃ C'', HRel C'' (hp.mem m) w' ∧ Kp C w C'' w' ∧ C''.V = C.V ∧ C''.vd = C.vd := by
  let C'' : Ctx := { C with S := fun g => g = b ∨ S' g }
  refine ⟨C'', ⟨⟨fun q blk hq => ?_, h.inj⟩, ⟨?_, hs, h.ext.facts, h.ext.defs⟩, fun q blk g c hqb hq => ?_, h.own, h.free, fun q g c hq => Nat.lt_of_lt_of_le (h.blt q g c hq) hsz⟩, ⟨⟨fun i hi => ⟨hi, rfl, rfl, rfl⟩, rfl, rfl, fun _ _ h => h⟩, hsz, h1, h2, h3, fun g hg ho hs => hk g hg hs, fun g hg => ?_, fun g hg => .inl hg, fun q g c hq => .inl ⟨q, c, hq⟩⟩, rfl, rfl⟩
  · obtain ⟨g, c, k1, k2⟩ := h.at_ q blk hq
    exact ⟨g, c, k1, by rw [hk g (h.blt q g c k1) (h.apart q blk g c hq k1)]; exact Blk.rel.le (C := C) (C' := C'') ⟨fun i hi => ⟨hi, rfl, rfl, rfl⟩, rfl, rfl, fun _ _ h => h⟩ k2⟩
  · show C.X.rel _ _ _ _
    rw [hC.2.1]
    exact ⟨r, S', hd, hr, fun g => Iff.rfl⟩
  · rintro (rfl | hs)
    · exact h.apart q blk _ c hqb hq hbS
    · rcases hS g hs with hs | hs
      · exact h.apart q blk g c hqb hq hs
      · have := h.blt q g c hq; omega
  · rcases hg with rfl | hg
    · exact .inl hbS
    · exact hS g hg
end
end
end Go.Proofs.YtkogjjeoihnjpaaGreat.Sx
end
section
set_option linter.unusedVariables false
set_option linter.unusedSimpArgs false
namespace Go.Proofs.YtkogjjeoihnjpaaGreat.Sx
open Go Go.RowKit
noncomputable section
/-! ### words put, told by a list of one length -/
def padP : Nat → List E → Option (List E)
  | 0, [] => some []
  | 0, _ => none
  | i + 1, [] => (padP i []).map fun l => .lit (.ofNat 0) :: .lit (.ofNat 0) :: .lit (.ofNat 0) :: l
  | i + 1, x :: k :: v :: r => (padP i r).map fun l => x :: k :: v :: l
  | _ + 1, _ => none
theorem mayErr_00 (n : Nat) : mayErr n (Int.ofNat 0) (Int.ofNat 0) ≠ 0 := by
  intro h
  rcases (mayErr_0 h).1 with h | h | h | h <;> exact absurd h (by decide)
theorem padP_ok {V : Env} {d : Nat → Prop} {n : Nat} {ct : Nat → Nat} : ∀ {i : Nat} {l l' : List E}, padP i l = some l' → (∀ e ∈ l, e.sc V d) → (∀ e ∈ l', e.sc V d) ∧ putsL n ct (l'.map (E.den V)) = putsL n ct (l.map (E.den V)) ∧ l'.length = 3 * i
  | 0, [], l', h, hs => by cases h; exact ⟨hs, rfl, rfl⟩
  | 0, _ :: _, l', h, hs => nomatch h
  | i + 1, [], l', h, hs => by
    simp only [padP, Option.map_eq_some_iff] at h
    obtain ⟨l, h, rfl⟩ := h
    obtain ⟨k1, k2, k3⟩ := padP_ok (n := n) (ct := ct) h hs
    refine ⟨fun e he => ?_, ?_, by simp [k3]; omega⟩
    · rcases List.mem_cons.1 he with rfl | he
      · exact trivial
      rcases List.mem_cons.1 he with rfl | he
      · exact trivial
      rcases List.mem_cons.1 he with rfl | he
      · exact trivial
      · exact k1 e he
    · simp only [List.map_cons, den_lit, putsL]
      rw [if_neg (mayErr_00 n), k2]
  | i + 1, [_], l', h, hs => nomatch h
  | i + 1, [_, _], l', h, hs => nomatch h
  | i + 1, x :: k :: v :: r, l', h, hs => by
    simp only [padP, Option.map_eq_some_iff] at h
    obtain ⟨l, h, rfl⟩ := h
    obtain ⟨k1, k2, k3⟩ := padP_ok (n := n) (ct := ct) h fun e he => hs e (by simp [he])
    refine ⟨fun e he => ?_, ?_, by simp [k3]; omega⟩
    · rcases List.mem_cons.1 he with rfl | he
      · exact hs _ (by simp)
      rcases List.mem_cons.1 he with rfl | he
      · exact hs _ (by simp)
      rcases List.mem_cons.1 he with rfl | he
      · exact hs _ (by simp)
      · exact k1 e he
    · simp only [List.map_cons, putsL, k2]
theorem putsL_append {n : Nat} {ct : Nat → Nat} {r : List Int} : ∀ {i : Nat} {q : List Int}, q.length = 3 * i → putsL n ct (q ++ r) = putsL n (putsL n ct r) q
  | 0, [], _ => by cases r <;> rfl
  | 0, _ :: _, h => by simp at h
  | i + 1, x :: k :: v :: q, h => by
    simp only [List.cons_append, putsL]
    rw [putsL_append (i := i) (by simp at h; omega)]
  | i + 1, [], h => by simp at h
  | i + 1, [_], h => by simp at h; omega
  | i + 1, [_, _], h => by simp at h; omega
/-! ### what is told of such a method -/
/-- a method answers what F says, of its arguments and the memory; behind the answer np words are told that are put -/
def MTells (f : FuncId) (ss : List Sh) (rs : List (Int × Int)) (fk : Ks) (rsh : Rs) (ors : List (Int × Int)) (ok : Ks) (np : Nat) (F : (Nat → Nat) → List Int → List Int) : Prop :=
  ∀ args, InB rs args → KsOk (env0 args) fk → ∀ (w : World) (p b n : Nat) (cs : List Value) (ct : Nat → Nat) (S : Nat → Prop), MachAt w p b cs → (∀ c ∈ cs, c.oneCell' = true) → RamAt w b n ct S → p ≠ b → ¬ S p →
    (InB ors (F ct (args ++ [(n : Int)])) ∧ KsOk (env0 (F ct (args ++ [(n : Int)]) ++ (args ++ [(n : Int)]))) ok) ∧
    Calls Tryz.prog f (.pointer (some ⟨p, 0, none⟩) :: shVs ss args).toArray w fun e w' => e = .returned (rsV rsh (F ct (args ++ [(n : Int)]))) ∧ MachTo w w' b n (putsL n ct ((F ct (args ++ [(n : Int)])).drop (ors.length - 3 * np))) S p ∧ w'.heap[p]? = w.heap[p]?
/-- the answer, and the words put -/
def mouts (rsh : Rs) (np : Nat) (a : SV × Hp) : Option (List E) :=
  match rsEs rsh a.1, a.2.gh.m with
  | some es, _ :: r => (padP np r).map fun l => es ++ l
  | _, _ => none
/-- the machine as it was -/
def rowIs (row : List SC) (hp : Hp) : Bool :=
  match hget hp.H 900 with
  | some (.cells row' T es false) => bif Nat.beq T 94 then listSame scSame row' row else false
  | _ => false
def mrow : List SC := exts 500 66
def nR : Int × Int := (.ofNat 4, .ofNat 256)
def mresB (rsh : Rs) (ors rs : List (Int × Int)) (ok : Ks) (np : Nat) (a : SV × Hp) : Bool :=
  match mouts rsh np a with
  | some es => bif inRs a.2.gh.k ors es then (bif holdsB a.2.gh.k (es ++ vars 0 (rs ++ [nR])) ok then rowIs (mrow ++ [.ext 999]) a.2 else false) else false
  | none => false
/-- a variable that is one number alone is that number -/
def litV : E → E
  | .var l h i => bif decide (l = h) then .lit l else .var l h i
  | e => e
theorem litV_ok {V : Env} {d : Nat → Prop} {e : E} (h : e.sc V d) : (litV e).sc V d ∧ (litV e).den V = e.den V := by
  unfold litV
  split
  · rename_i l u i
    cases hd : decide (l = u) with
    | true =>
      have := of_decide_eq_true hd
      subst this
      rw [cond_true]
      obtain ⟨_, h1, h2⟩ := h
      exact ⟨trivial, by rw [den_lit, den_var]; omega⟩
    | false => rw [cond_false]; exact ⟨h, rfl⟩
  · exact ⟨h, rfl⟩
def argsL (ss : List Sh) (rs : List (Int × Int)) : List SV := .sc (.ptr 900 0) :: (shSVs ss ((vars 0 rs).map litV)).map .pv
theorem argsL_rel {ft : Ft} {args : List Int} {b n p : Nat} {ct : Nat → Nat} {cs : List Value} {S : Nat → Prop} {rs : List (Int × Int)} {ss : List Sh} (hi : InB rs args) (hl : rs.length ≤ 500) : All2 (SV.rel (ctxM ft args b n p ct cs S)) (argsL ss rs) (.pointer (some ⟨p, 0, none⟩) :: shVs ss args) := by
  refine .cons ⟨p, 1, by simp [ctxM], rfl⟩ ?_
  have hv := varsM_sc (ft := ft) (b := b) (n := n) (p := p) (ct := ct) (cs := cs) (S := S) hi hl
  have := shSVs_rel (C := ctxM ft args b n p ct cs S) ss (l := (vars 0 rs).map litV) fun e he => by
    obtain ⟨x, hx, rfl⟩ := List.mem_map.1 he
    exact (litV_ok (hv x hx)).1
  rw [List.map_map, show (vars 0 rs).map (E.den (ctxM ft args b n p ct cs S).V ∘ litV) = args from (List.map_congr_left fun e he => (litV_ok (hv e he)).2).trans (varsM_den hi)] at this
  exact this.map_pv
def mrun (orc : Orc) (f0 : FuncId) (ss : List Sh) (rs : List (Int × Int)) (fk : Ks) : XR := xfn Tryz.prog tab.get orc 5000 100 f0 (argsL ss (rs ++ [nR])) (hpM mrow fk rs.length)
def mranB (t : XR) (rsh : Rs) (ors rs : List (Int × Int)) (ok : Ks) (np : Nat) : Bool := bif t.one then t.every (mresB rsh ors rs ok np) else false
def MFof (t : XR) (rsh : Rs) (np : Nat) (ftM : (Nat → Nat) → Ft) (ct : Nat → Nat) (args : List Int) : List Int :=
  match t.pick (envA (ftM ct) args) with
  | some (V', a) => ((mouts rsh np a).getD []).map (E.den V')
  | none => []
theorem inB_snoc {rs : List (Int × Int)} {args : List Int} {r : Int × Int} {x : Int} (h : InB rs args) (h1 : r.1 ≤ x) (h2 : x ≤ r.2) : InB (rs ++ [r]) (args ++ [x]) := by
  refine ⟨by simp [h.1], fun j q m hj hm => ?_⟩
  by_cases hl : j < rs.length
  · rw [List.getElem?_append_left hl] at hj
    rw [List.getElem?_append_left (by rw [h.1]; exact hl)] at hm
    exact h.2 j q m hj hm
  · have hj' : j = rs.length := by
      have := (List.getElem?_eq_some_iff.1 hj).1
      simp at this; omega
    subst hj'
    rw [List.getElem?_append_right (Nat.le_refl _)] at hj
    rw [List.getElem?_append_right (by rw [h.1]; exact Nat.le_refl _)] at hm
    rw [h.1] at hm
    simp at hj hm
    subst hj; subst hm
    exact ⟨h1, h2⟩
theorem scB_snoc {rs : List (Int × Int)} {r : Int × Int} : ∀ {e : E}, scB rs e = true → scB (rs ++ [r]) e = true
  | .lit _, _ => rfl
  | .var lo hi i, h => by
    unfold scB at h ⊢
    split at h
    · rename_i l u hr
      rw [List.getElem?_append_left (List.getElem?_eq_some_iff.1 hr).1, hr]
      exact h
    · cases h
  | .bin _ _ a b, h => by obtain ⟨h1, h2⟩ := and_bif h; unfold scB; rw [scB_snoc h1, scB_snoc h2]; rfl
  | .pl _ a b, h => by obtain ⟨h1, h2⟩ := and_bif h; unfold scB; rw [scB_snoc h1, scB_snoc h2]; rfl
  | .cast _ a, h => scB_snoc (e := a) h
  | .ite c a b, h => by obtain ⟨h1, h2⟩ := and_bif h; obtain ⟨h2, h3⟩ := and_bif h2; unfold scB; rw [scB_snoc h1, scB_snoc h2, scB_snoc h3]; rfl
  | .tt _, _ => rfl
  | .bvar _, h => nomatch h
  | .cmp _ a b, h => by obtain ⟨h1, h2⟩ := and_bif h; unfold scB; rw [scB_snoc h1, scB_snoc h2]; rfl
  | .no a, h => scB_snoc (e := a) h
  | .ix _ _ _, h => nomatch h
/-- facts of more numbers -/
theorem env0_snoc {rs : List (Int × Int)} {args more : List Int} (hl : args.length = rs.length) : ∀ {e : E}, scB rs e = true → e.ev (env0 (args ++ more)) = e.ev (env0 args)
  | .lit _, _ => rfl
  | .var lo hi i, h => by
    unfold scB at h
    split at h
    · rename_i l u hr
      have hi := (List.getElem?_eq_some_iff.1 hr).1
      show ((args ++ more).getD i 0, false) = (args.getD i 0, false)
      rw [List.getD, List.getD, List.getElem?_append_left (by omega)]
    · cases h
  | .bin _ _ a b, h => by obtain ⟨h1, h2⟩ := and_bif h; simp only [E.ev, env0_snoc hl h1, env0_snoc hl h2]
  | .pl _ a b, h => by obtain ⟨h1, h2⟩ := and_bif h; simp only [E.ev, env0_snoc hl h1, env0_snoc hl h2]
  | .cast _ a, h => by simp only [E.ev, env0_snoc (e := a) hl h]
  | .ite c a b, h => by obtain ⟨h1, h2⟩ := and_bif h; obtain ⟨h2, h3⟩ := and_bif h2; simp only [E.ev, env0_snoc hl h1, env0_snoc hl h2, env0_snoc hl h3]
  | .tt _, _ => rfl
  | .bvar _, h => nomatch h
  | .cmp _ a b, h => by obtain ⟨h1, h2⟩ := and_bif h; simp only [E.ev, env0_snoc hl h1, env0_snoc hl h2]
  | .no a, h => by simp only [E.ev, env0_snoc (e := a) hl h]
  | .ix _ _ _, h => nomatch h
def shN : List Sh → Nat
  | [] => 0
  | .one _ :: r => shN r + 1
  | .agg cs :: r => cs.length + shN r
theorem shVs_more' : ∀ (ss : List Sh) (args more : List Int), shN ss ≤ args.length → shVs ss (args ++ more) = shVs ss args
  | [], _, _, _ => rfl
  | .one c :: r, args, more, h => by
    simp only [shN] at h
    match args, h with
    | [], h => simp at h
    | a :: l, h => simp only [shVs, List.cons_append, List.headD_cons, List.tail_cons]; rw [shVs_more' r l more (by simp at h; omega)]
  | .agg cs :: r, args, more, h => by
    simp only [shN] at h
    have hc : ∀ (cs : List CK) (args more : List Int), cs.length ≤ args.length → cksV cs (args ++ more) = cksV cs args := by
      intro cs
      induction cs with
      | nil => intros; rfl
      | cons c cs ih =>
        intro args more h
        match args, h with
        | [], h => simp at h
        | a :: l, h => simp only [cksV, List.cons_append, List.headD_cons, List.tail_cons]; rw [ih l more (by simp at h; omega)]
    simp only [shVs]
    rw [hc cs args more (by omega), List.drop_append_of_le_length (by omega), shVs_more' r _ more (by simp; omega)]
theorem cksE_len : ∀ {cs : List CK} {ss : List SC} {es : List E}, cksE cs ss = some es → es.length = cs.length
  | [], [], es, h => by cases h; rfl
  | c :: cs, s :: ss, es, h => by
    unfold cksE at h
    split at h
    · split at h
      · rename_i l hl; cases h; simp [cksE_len hl]
      · cases h
    · cases h
  | [], _ :: _, es, h => nomatch h
  | _ :: _, [], es, h => nomatch h
theorem shEs_len : ∀ {ss : List Sh} {ps : List PV} {es : List E}, shEs ss ps = some es → es.length = shN ss
  | [], [], es, h => by cases h; rfl
  | .one c :: r, .one s :: ps, es, h => by
    unfold shEs at h
    split at h
    · split at h
      · rename_i l hl; cases h; simp [shN, shEs_len hl]
      · cases h
    · cases h
  | .agg cs :: r, .agg ss :: ps, es, h => by
    unfold shEs at h
    split at h
    · rename_i es0 he
      split at h
      · rename_i l hl; cases h; simp [shN, shEs_len hl, cksE_len he]
      · cases h
    · cases h
  | [], _ :: _, es, h => nomatch h
  | .one _ :: _, [], es, h => nomatch h
  | .agg _ :: _, [], es, h => nomatch h
  | .one _ :: _, .agg _ :: _, es, h => nomatch h
  | .agg _ :: _, .one _ :: _, es, h => nomatch h
def rsN : Rs → Nat
  | .one s => shN [s]
  | .tup ss => shN ss
theorem rsEs_len {r : Rs} {sv : SV} {es : List E} (h : rsEs r sv = some es) : es.length = rsN r := by
  unfold rsEs at h
  split at h
  · exact shEs_len h
  · exact shEs_len h
  · cases h
theorem rsV_more (r : Rs) (l more : List Int) (h : rsN r ≤ l.length) : rsV r (l ++ more) = rsV r l := by
  cases r with
  | one s => show (shVs [s] (l ++ more)).headD Go.undef = (shVs [s] l).headD Go.undef; rw [shVs_more' [s] l more h]
  | tup ss => show Value.tuple (shVs ss (l ++ more)).toArray = Value.tuple (shVs ss l).toArray; rw [shVs_more' ss l more h]
theorem ext_same {C : Ctx} : ∀ {row : List SC} {us vs : List Value}, (∀ c ∈ row, ∃ i, c = .ext i) → All2 (SC.rel C) row us → All2 (SC.rel C) row vs → us = vs
  | [], _, _, _, .nil, .nil => rfl
  | c :: row, _, _, hr, .cons h1 h2, .cons k1 k2 => by
    obtain ⟨i, rfl⟩ := hr c List.mem_cons_self
    rw [ext_same (fun c hc => hr c (List.mem_cons_of_mem _ hc)) h2 k2, h1.2.1, k1.2.1]
theorem exts_all : ∀ (i n : Nat), ∀ c ∈ exts i n, ∃ j, c = .ext j
  | _, 0, c, h => nomatch h
  | i, n + 1, c, h => by
    rcases List.mem_cons.1 h with rfl | h
    · exact ⟨i, rfl⟩
    · exact exts_all (i + 1) n c h
theorem exts_ok : ∀ (i n : Nat), (exts i n).all SC.ok = true
  | _, 0 => rfl
  | i, n + 1 => by simp only [exts, List.all_cons, exts_ok (i + 1) n]; rfl
theorem mtells_of_run {ftM : (Nat → Nat) → Ft} {orc : Orc} {f0 : FuncId} {ss : List Sh} {rs : List (Int × Int)} {fk ok : Ks} {rsh : Rs} {ors : List (Int × Int)} {np : Nat} (ho : ∀ b n ct, OrcOk Tryz.prog (ramX b n ct (pxM b)) (ftM ct) orc) (hl : rs.length ≤ 400) (hf : fk.all (fun q => scB rs q.1) = true) (hss : shN ss ≤ rs.length)
    (hso : ok.all (fun q => scTy (ors ++ (rs ++ [nR])) true q.1) = true) (h : mranB (mrun orc f0 ss rs fk) rsh ors rs ok np = true) : MTells f0 ss rs fk rsh ors ok np (MFof (mrun orc f0 ss rs fk) rsh np ftM) := by
  obtain ⟨h1, h2⟩ := and_bif h
  intro args hi hk w p b n cs ct S hm hone hr hpb hpS
  obtain ⟨hn4, hn256⟩ : 4 ≤ n ∧ n ≤ 256 := by obtain ⟨m, pg, hh, _⟩ := hr; exact ⟨hh.lo, hh.hi⟩
  have hi' : InB (rs ++ [nR]) (args ++ [(n : Int)]) := inB_snoc hi (show (4 : Int) ≤ n by omega) (show (n : Int) ≤ 256 by omega)
  have hf' : fk.all (fun q => scB (rs ++ [nR]) q.1) = true := List.all_eq_true.2 fun q hq => scB_snoc (List.all_eq_true.1 hf q hq)
  have hk' : KsOk (env0 (args ++ [(n : Int)])) fk := fun q hq => by
    have := hk q hq
    unfold E.tr at *
    rw [env0_snoc hi.1 (List.all_eq_true.1 hf q hq)]; exact this
  have hl' : (rs ++ [nR]).length ≤ 500 := by simp; omega
  have hnk : (rs ++ [nR])[rs.length]? = some (.ofNat 4, .ofNat 256) := by rw [List.getElem?_append_right (Nat.le_refl _)]; simp [nR]
  have hkn : (args ++ [(n : Int)]).getD rs.length 0 = n := by rw [List.getD, List.getElem?_append_right (by rw [hi.1]; exact Nat.le_refl _)]; simp [hi.1]
  have hrow : All2 (SC.rel (ctxM (ftM ct) (args ++ [(n : Int)]) b n p ct cs S)) mrow cs := by
    have := exts_rel (C := ctxM (ftM ct) (args ++ [(n : Int)]) b n p ct cs S) (cs := cs) (i := 500) fun j c hj => by
      have hjl : j < cs.length := (List.getElem?_eq_some_iff.1 hj).1
      have := hm.1
      refine ⟨?_, show 500 + j < 1000 by omega, hone c (List.mem_of_getElem? hj)⟩
      show xM b cs (500 + j) = c
      unfold xM
      rw [if_neg (by omega), show 500 + j - 500 = j by omega, List.getD, hj]; rfl
    rw [hm.1] at this
    exact this
  have HR := hrelM (ft := ftM ct) (mrow := mrow) (fk := fk) hi' hl' hf' hk' hnk hkn hm hrow (exts_ok 500 66) hr hpb hpS
  have hvs := varsM_sc (ft := ftM ct) (b := b) (n := n) (p := p) (ct := ct) (cs := cs) (S := S) hi' hl'
  have CALL := xfn_ok (X := ramX b n ct (pxM b)) (ft := ftM ct) tab_ok (ho b n ct) mixed 5000 100 f0 (argsL ss (rs ++ [nR])) (hpM mrow fk rs.length) _ w _ ctxM_is HR (argsL_rel hi' hl')
    (fun V' a => (mrun orc f0 ss rs fk).pick (ctxM (ftM ct) (args ++ [(n : Int)]) b n p ct cs S).V = some (V', a) ∧ mresB rsh ors rs ok np a = true) (T.holds_pick h1 (T.every_holds h2))
  rw [shVs_more' ss args _ (by rw [hi.1]; exact hss)] at CALL
  have told : ∀ {e : Ending} {w' : World}, (∃ C' v sv hp', e = .returned v ∧ sv.rel C' v ∧ HRel C' hp' w' ∧ Kp (ctxM (ftM ct) (args ++ [(n : Int)]) b n p ct cs S) w C' w' ∧ (mrun orc f0 ss rs fk).pick (ctxM (ftM ct) (args ++ [(n : Int)]) b n p ct cs S).V = some (C'.V, (sv, hp')) ∧ mresB rsh ors rs ok np (sv, hp') = true) →
      (InB ors (MFof (mrun orc f0 ss rs fk) rsh np ftM ct (args ++ [(n : Int)])) ∧ KsOk (env0 (MFof (mrun orc f0 ss rs fk) rsh np ftM ct (args ++ [(n : Int)]) ++ (args ++ [(n : Int)]))) ok) ∧
      (e = .returned (rsV rsh (MFof (mrun orc f0 ss rs fk) rsh np ftM ct (args ++ [(n : Int)]))) ∧ MachTo w w' b n (putsL n ct ((MFof (mrun orc f0 ss rs fk) rsh np ftM ct (args ++ [(n : Int)])).drop (ors.length - 3 * np))) S p ∧ w'.heap[p]? = w.heap[p]?) := by
    rintro e w' ⟨C', v, sv, hp', rfl, hrel, hH, hK, hpick, hb⟩
    unfold mresB at hb
    split at hb
    · rename_i es hes
      obtain ⟨hb1, hb⟩ := and_bif hb
      obtain ⟨hb2, hb3⟩ := and_bif hb
      have hF : MFof (mrun orc f0 ss rs fk) rsh np ftM ct (args ++ [(n : Int)]) = es.map (E.den C'.V) := by
        obtain ⟨W', k1, k2⟩ := T.pick_sim (envX_sim (ftM ct) (args ++ [(n : Int)]) (xM b cs)) hpick
        unfold MFof; rw [k1]; simp only [hes, Option.getD_some, k2.den]
      unfold mouts at hes
      split at hes
      · rename_i es0 e0 r hes0 hmem
        obtain ⟨l, hl0, rfl⟩ := Option.map_eq_some_iff.1 hes
        simp only at hes0 hmem
        obtain ⟨m1, rfl⟩ := rsEs_ok hes0 hrel
        have hlen0 := rsEs_len hes0
        have hC' := ctxM_is (ft := ftM ct) (args := args ++ [(n : Int)]) (b := b) (n := n) (p := p) (ct := ct) (cs := cs) (S := S) |>.le hK.le
        obtain ⟨g1, g2, g3, S2, g4, g5⟩ := gh_mem hC' hH hmem
        obtain ⟨l1, l2, l3⟩ := padP_ok (n := n) (ct := ct) hl0 g2
        have hsc : ∀ e ∈ es0 ++ l, e.sc C'.V C'.vd := fun e he => by
          rcases List.mem_append.1 he with he | he
          · exact m1 e he
          · exact l1 e he
        have hin := inRs_ok hH.ks hb1 hsc
        have hv2 : ∀ e ∈ vars 0 (rs ++ [nR]), e.sc (ctxM (ftM ct) (args ++ [(n : Int)]) b n p ct cs S).V (ctxM (ftM ct) (args ++ [(n : Int)]) b n p ct cs S).vd := fun e he => by
          obtain ⟨j, r, q1, rfl⟩ := vars_get he
          have hj : j < (rs ++ [nR]).length := (List.getElem?_eq_some_iff.1 q1).1
          have := inB_get hi' (i := j) (r := r) q1
          simp only [Nat.zero_add]
          exact ⟨show j < 1000 by omega, this.1, this.2⟩
        have hva : (vars 0 (rs ++ [nR])).map (E.den C'.V) = args ++ [(n : Int)] := by
          refine (den_map (C := ctxM (ftM ct) (args ++ [(n : Int)]) b n p ct cs S) hK.le hv2).trans (vars_den hi'.1 fun j m hj => ?_)
          show (args ++ [(n : Int)]).getD (0 + j) 0 = m
          rw [Nat.zero_add, List.getD, hj]; rfl
        have hv3 : ∀ e ∈ vars 0 (rs ++ [nR]), e.sc C'.V C'.vd := fun e he => (E.sc_le hK.le e (hv2 e he)).1
        have hlv : (vars 0 (rs ++ [nR])).length = (rs ++ [nR]).length := by
          have := congrArg List.length hva
          simp only [List.length_map] at this
          rw [this]; exact hi'.1
        have hle : (es0 ++ l).length = ors.length := by have := hin.1; simpa using this
        have hks := holdsB_ok (d := C'.vd) (rs := ors ++ (rs ++ [nR])) hH.ks (σ := es0 ++ l ++ vars 0 (rs ++ [nR])) (fun e he => by
          rcases List.mem_append.1 he with he | he
          · exact hsc e he
          · exact hv3 e he) (by have := hle; simp only [List.length_append] at *; omega) hso hb2
        rw [List.map_append, hva] at hks
        rw [hF]
        refine ⟨⟨hin, hks⟩, ?_, ⟨S2, ?_, ⟨hK.os, hK.tape, hK.output, hK.size, fun g hg hn => ?_⟩, fun g hg => ?_⟩, ?_⟩
        · rw [List.map_append, rsV_more rsh _ _ (by rw [List.length_map, hlen0]; exact Nat.le_refl _)]
        · rw [List.map_append, List.drop_left' (by rw [List.length_map]; rw [List.length_append] at hle; omega), l2]
          exact g4
        · exact hK.keep g hg (fun ho => hn (.inl ho)) (fun hs => hn (.inr hs))
        · rcases hK.newS g ((g5 g).2 (.inr hg)) with h0 | h0
          · rcases h0 with rfl | h0
            · exact absurd hg g4.self.1
            · exact .inl h0
          · exact .inr h0
        · unfold rowIs at hb3
          split at hb3
          · rename_i row' T es' hget
            obtain ⟨q1, q2⟩ := and_bif hb3
            have q1 : T = 94 := Nat.eq_of_beq_eq_true q1
            have q2 : row' = mrow ++ [.ext 999] := listSame_ok (fun _ _ => scSame_ok) q2
            subst q1 q2
            obtain ⟨g, c, k1, vs, sp, k2, k3, k4, _⟩ := hH.at_ 900 _ hget
            have k5 := hK.le.bl 900 (p, 1) (by simp [ctxM])
            rw [k1] at k5; cases k5
            have hrow2 : All2 (SC.rel C') (mrow ++ [.ext 999]) (cs ++ [Value.pointer (some ⟨b, 0, none⟩)]) := by
              refine (hrow.mono fun _ _ => SC.rel.le hK.le _ _).append (.cons ?_ .nil)
              refine SC.rel.le hK.le _ _ ⟨show 999 < 1000 by omega, ?_, rfl⟩
              show _ = xM b cs 999
              unfold xM; rw [if_pos rfl]
            have hvs' := ext_same (fun c hc => by
              rcases List.mem_append.1 hc with hc | hc
              · exact exts_all 500 66 c hc
              · exact ⟨999, List.mem_singleton.1 hc⟩) k2 hrow2
            rw [k3, k4 rfl, List.append_nil, hvs', hm.2]
          · cases hb3
      · cases hes
    · cases hb
  obtain ⟨e1, w1, hh⟩ := calls_some CALL
  exact ⟨(told hh).1, CALL.mono fun e w' h => (told h).2⟩
end
end Go.Proofs.YtkogjjeoihnjpaaGreat.Sx
end
section
set_option linter.unusedVariables false
set_option linter.unusedSimpArgs false
namespace Go.Proofs.YtkogjjeoihnjpaaGreat.Sx
open Go Go.RowKit
noncomputable section
def spineE {β : Type} : List E → (List E → β) → β
  | [], k => k []
  | e :: r, k => spineE r fun r => k (e :: r)
theorem spineE_eq {β : Type} : ∀ (l : List E) (k : List E → β), spineE l k = k l
  | [], k => rfl
  | e :: r, k => by rw [spineE, spineE_eq]
/-- of the arguments, the pages, and the words put -/
def mF (F : (Nat → Nat) → List Int → List Int) (len : Nat) (ct : Nat → Nat) (l : List Int) : List Int :=
  F (putsL (l.getD len 0).toNat ct (l.drop (len + 1))) (l.take (len + 1))
def mtellOrc (f0 : FuncId) (i r0 : Nat) (ss : List Sh) (rs : List (Int × Int)) (fk : Ks) (rsh : Rs) (ors : List (Int × Int)) (ok : Ks) (np : Nat) : Orc := fun f args hp =>
  bif Nat.beq f f0 then
    match args with
    | p :: rest => bif machRow hp r0 p then (match asPVs' rest with
      | some ps => match shEs ss ps with
        | some es => match hp.gh.m with
          | e0 :: r => bif inRs hp.gh.k rs es then (bif holdsB hp.gh.k es fk then some (xlets hp i (es ++ e0 :: r) ors (fun vs => sbK (vs ++ (es ++ [e0])) ok) fun vs hp => svK (rsSV rsh vs) fun v => spineE (vs.drop (ors.length - 3 * np) ++ r) fun q => .ret (v, hp.mem (e0 :: q))) else some (.bad "what must be known")) else some (.bad "bounds of arguments")
          | _ => some (.bad "memory")
        | none => some (.bad "form of arguments")
      | none => some (.bad "arguments")) else some (.bad "which machine")
    | _ => some (.bad "arguments")
  else none
theorem mtellOrc_ok {b n : Nat} {ct : Nat → Nat} {px : Nat → Option Value} {r0 : Nat} {ft : Ft} {f0 : FuncId} {i : Nat} {ss : List Sh} {rs : List (Int × Int)} {fk ok : Ks} {rsh : Rs} {ors : List (Int × Int)} {np : Nat} {F : (Nat → Nat) → List Int → List Int}
    (hp0 : px r0 = some (.pointer (some ⟨b, 0, none⟩))) (hsf : fk.all (fun q => scTy rs true q.1) = true) (hso : ok.all (fun q => scTy (ors ++ (rs ++ [nR])) true q.1) = true) (hnp : 3 * np ≤ ors.length) (ht : MTells f0 ss rs fk rsh ors ok np F) (hft : ft i = mF F rs.length ct) :
    OrcOk Tryz.prog (ramX b n ct px) ft (mtellOrc f0 i r0 ss rs fk rsh ors ok np) := by
  intro f args hp t h0 C w vs hC h hv
  unfold mtellOrc at h0
  cases hb : Nat.beq f f0 with
  | false => rw [hb, cond_false] at h0; cases h0
  | true =>
    rw [hb, cond_true] at h0
    have hff : f = f0 := Nat.eq_of_beq_eq_true hb
    subst hff
    split at h0
    · rename_i p rest
      cases hmr : machRow hp r0 p with
      | false => rw [hmr, cond_false] at h0; cases h0; exact CallOk.bad
      | true =>
      rw [hmr, cond_true] at h0
      split at h0
      · rename_i ps hps
        split at h0
        · rename_i es hes
          split at h0
          · rename_i e0 r hm
            cases hin : inRs hp.gh.k rs es with
            | false => rw [hin, cond_false] at h0; cases h0; exact CallOk.bad
            | true =>
            rw [hin, cond_true] at h0
            cases hpre : holdsB hp.gh.k es fk with
            | false => rw [hpre, cond_false] at h0; cases h0; exact CallOk.bad
            | true =>
            rw [hpre, cond_true] at h0
            cases h0
            cases hv with
            | @cons _ v1 _ vs1 q1 q2 =>
            obtain ⟨g, q, c, cs, rfl, hg, hmach, hone, hnS⟩ := machRow_ok hC hp0 h hmr q1
            obtain ⟨m1, m2⟩ := shEs_ok hes (asPVs'_ok hps q2)
            obtain ⟨g1, g2, g3, S, g4, g5⟩ := gh_mem hC h hm
            have hI := inRs_ok h.ks hin m1
            have hlen : es.length = rs.length := by have := hI.1; simpa using this
            have hK := holdsB_ok h.ks m1 hlen hsf hpre
            have hgb : g ≠ b := fun e => hnS ((g5 g).2 (.inl e))
            have hgS : ¬ S g := fun e => hnS ((g5 g).2 (.inr e))
            intro Φ hx
            obtain ⟨⟨k1, k3⟩, k2⟩ := ht (es.map (E.den C.V)) hI hK w g b n cs (putsL n ct (r.map (E.den C.V))) S hmach hone g4 hgb hgS
            have hFe : C.V.f i ((es ++ e0 :: r).map (E.den C.V)) = F (putsL n ct (r.map (E.den C.V))) (es.map (E.den C.V) ++ [(n : Int)]) := by
              rw [hC.1, hft, List.map_append, List.map_cons, g1]
              have hl2 : (es.map (E.den C.V)).length = rs.length := by simpa using hlen
              unfold mF
              rw [List.getD, List.getElem?_append_right (by omega), hl2, Nat.sub_self, List.getElem?_cons_zero, Option.getD_some, Int.toNat_natCast]
              rw [show es.map (E.den C.V) ++ (n : Int) :: r.map (E.den C.V) = (es.map (E.den C.V) ++ [(n : Int)]) ++ r.map (E.den C.V) by simp]
              rw [List.drop_left' (by simp [hl2]), List.take_left' (by simp [hl2])]
            generalize hFv : F (putsL n ct (r.map (E.den C.V))) (es.map (E.den C.V) ++ [(n : Int)]) = Fv at *
            obtain ⟨C', hp', outs, n1, n2, n3, n4, n5, n6, n7, n8, n9, n10, n11⟩ := xlets_ok h (fun e he => by
              rcases List.mem_append.1 he with he | he
              · exact m1 e he
              rcases List.mem_cons.1 he with rfl | he
              · exact g3
              · exact g2 e he) (by rw [hFe]; exact k1) (fun C1 vs1 hle1 hs1 hd1 => sbK_ok (rs := ors ++ (rs ++ [nR])) (fun e he => by
              rcases List.mem_append.1 he with he | he
              · exact hs1 e he
              rcases List.mem_append.1 he with he | he
              · exact (E.sc_le hle1 e (m1 e he)).1
              · rw [List.mem_singleton.1 he]; exact (E.sc_le hle1 _ g3).1) (by
              have e1 := congrArg List.length hd1
              rw [hFe] at e1
              have e2 := k1.1
              simp only [List.length_map] at e1
              simp only [List.length_append, List.length_singleton]
              omega) hso (by
              have e3 : (es ++ [e0]).map (E.den C1.V) = es.map (E.den C.V) ++ [(n : Int)] := by
                rw [den_map hle1 (l := es ++ [e0]) (fun e he => by
                  rcases List.mem_append.1 he with he | he
                  · exact m1 e he
                  · rw [List.mem_singleton.1 he]; exact g3), List.map_append, List.map_singleton, g1]
              rw [List.map_append, hd1, hFe, e3]; exact k3)) hx
            rw [hFe] at n4
            rw [svK_eq, spineE_eq] at n5
            have hol : outs.length = ors.length := by
              have e1 := congrArg List.length n4
              have e2 := k1.1
              simp only [List.length_map] at e1
              omega
            have hle := n2.le
            have hC'is := hC.le hle
            have hd : ∀ {y : E}, y.sc C.V C.vd → y.sc C'.V C'.vd ∧ y.den C'.V = y.den C.V := fun {y} hy => by
              obtain ⟨k1, k2⟩ := E.sc_le hle y hy
              exact ⟨k1, by unfold E.den; rw [k2]⟩
            rw [m2]
            refine k2.mono ?_
            rintro e w' ⟨rfl, ⟨S', t1, t2, t3⟩, t4⟩
            obtain ⟨C'', u1, u2, u3, u4⟩ := HRel.memTo (n := n) hC'is n1 (m := e0 :: (outs.drop (ors.length - 3 * np) ++ r)) (r := Fv.drop (ors.length - 3 * np) ++ r.map (E.den C.V)) (S' := S') (fun e he => by
              rcases List.mem_cons.1 he with rfl | he
              · exact (hd g3).1
              rcases List.mem_append.1 he with he | he
              · exact n3 e (List.mem_of_mem_drop he)
              · exact (hd (g2 e he)).1) (by rw [List.map_cons, (hd g3).2, g1, List.map_append, List.map_drop, n4, den_map hle g2])
              (by rw [putsL_append (i := np) (by rw [List.length_drop, k1.1]; omega)]; exact t1) t2.size t2.tape t2.os t2.output
              (fun g' hg' hs => by
                rw [n7] at hs
                by_cases e1 : g' = g
                · rw [e1]; exact t4
                · refine t2.block g' hg' ?_
                  rintro (e2 | e2 | e2)
                  · exact e1 e2
                  · exact hs ((g5 g').2 (.inl e2))
                  · exact hs ((g5 g').2 (.inr e2)))
              (fun g' hg' => by
                rw [n7]
                rcases t3 g' hg' with e1 | e1
                · exact .inl ((g5 g').2 (.inr e1))
                · exact .inr e1)
              (by rw [n7]; exact (g5 b).2 (.inl rfl))
            refine ⟨C'', _, _, _, rfl, SV.rel.le u2.le ?_, u1, n2.trans u2, by rw [u3]; exact n5⟩
            rw [← n4]
            exact rsSV_rel rsh n3
          · cases h0; exact CallOk.bad
        · cases h0; exact CallOk.bad
      · cases h0; exact CallOk.bad
    · cases h0; exact CallOk.bad
end
end Go.Proofs.YtkogjjeoihnjpaaGreat.Sx
end
section
set_option linter.unusedVariables false
set_option linter.unusedSimpArgs false
namespace Go.Proofs.YtkogjjeoihnjpaaGreat.Sx
open Go Go.RowKit
noncomputable section
/-- block sb holds n pages of bytes; they were ct -/
def refX (sb n : Nat) (ct : Nat → Nat) (px : Nat → Option Value) : Ext :=
  ⟨fun l _ w T => ∃ r, l = (n : Int) :: r ∧ RefMem w sb n (putsL n ct r) ∧ ∀ g, T g ↔ g = sb,
   fun l _ w w' T ⟨r, h1, ⟨⟨cur, c1, c2, c3⟩, h3⟩, h4⟩ hs hk => ⟨r, h1, ⟨⟨cur, (hk sb ((h4 sb).2 rfl)).trans c1, c2, c3⟩, h3⟩, h4⟩,
   fun l _ w T ⟨r, h1, ⟨⟨cur, c1, _⟩, _⟩, h4⟩ k hk => by rw [(h4 k).1 hk]; exact blk_lt c1,
   fun _ _ _ _ _ _ h => h, fun _ _ _ _ _ _ _ _ h _ => h, px⟩
/-- the slice of the bytes -/
def bytesV (sb n : Nat) : Value := .slice (some ⟨sb, 0, none⟩) (n * 4096) (n * 4096)
/-- is that the document's machine over the bytes outside? -/
def refRow (hp : Hp) (r0 : Nat) : SV → Bool
  | .pv (.one (.ptr q o)) => bif Nat.beq o 0 then (match hget hp.H q with
    | some (.cells row T es false) => bif Nat.beq T 62 then (bif Nat.beq row.length 68 then (match row, hp.gh.m with
      | .int .i64 e0 :: .ext i :: _, e :: _ => bif Nat.beq i r0 then eqE e0 e else false
      | _, _ => false) else false) else false
    | _ => false) else false
  | _ => false
section
variable {sb n : Nat} {ct : Nat → Nat} {px : Nat → Option Value} {r0 : Nat} {ft : Ft}
/-- what is told of the bytes -/
theorem gh_ref {C : Ctx} {hp : Hp} {w : World} (hC : C.Is (refX sb n ct px) ft) (h : HRel C hp w) {e : E} {r : List E} (hm : hp.gh.m = e :: r) :
    e.den C.V = n ∧ (∀ x ∈ r, x.sc C.V C.vd) ∧ e.sc C.V C.vd ∧ RefMem w sb n (putsL n ct (r.map (E.den C.V))) ∧ ∀ g, C.S g ↔ g = sb := by
  have h1 := h.ext.rel
  rw [hC.2.1, hm] at h1
  obtain ⟨l, h2, h3, h4⟩ := h1
  simp only [List.map_cons, List.cons.injEq] at h2
  have hs := h.ext.msc
  rw [hm] at hs
  refine ⟨h2.1, fun x hx => hs x (List.mem_cons_of_mem _ hx), hs e List.mem_cons_self, ?_, h4⟩
  rw [h2.2]; exact h3
theorem refRow_ok {C : Ctx} {hp : Hp} {w : World} (hC : C.Is (refX sb n ct px) ft) (hp0 : px r0 = some (bytesV sb n)) (h : HRel C hp w) {p : SV} {v : Value} (hb : refRow hp r0 p = true) (hr : p.rel C v) :
    ∃ g q c cs, v = .pointer (some ⟨g, 0, none⟩) ∧ C.bl q = some (g, c) ∧ RefAt w g sb n cs ∧ (∀ x ∈ cs, x.oneCell' = true) ∧ ¬ C.S g := by
  unfold refRow at hb
  split at hb
  · rename_i q o
    obtain ⟨h0, hb1⟩ := and_bif hb
    have h0 : o = 0 := Nat.eq_of_beq_eq_true h0
    split at hb1
    · rename_i row T es hget
      obtain ⟨h1, hb2⟩ := and_bif hb1
      obtain ⟨h2, hb3⟩ := and_bif hb2
      have h1 : T = 62 := Nat.eq_of_beq_eq_true h1
      have h2 : row.length = 68 := Nat.eq_of_beq_eq_true h2
      split at hb3
      · rename_i e0 i rest e re hm hlen
        obtain ⟨h3, h4⟩ := and_bif hb3
        have hi : i = r0 := Nat.eq_of_beq_eq_true h3
        have he := eqE_ok h4
        clear hb hb1 hb2 hb3
        subst h0 h1 hi he
        obtain ⟨g, c, hg, vs, sp, k1, k2, k3, _, k5⟩ := h.at_ q _ hget
        obtain ⟨g', c', hg', rfl⟩ := hr
        rw [hg] at hg'; cases hg'
        cases k1 with
        | @cons _ v0 _ vs1 q1 q2 =>
        cases q2 with
        | @cons _ v1 _ vs2 q2 q3 =>
        have g1 := (gh_ref hC h hm).1
        have hv0 : v0 = .int .i64 n := by rw [← g1]; exact q1.2
        have hv1 : v1 = bytesV sb n := by rw [q2.2.1]; exact (hC.2.2 _ _ hp0).2
        subst hv0 hv1
        refine ⟨g, q, c, vs2, rfl, hg, ⟨?_, ?_⟩, fun x hx => ?_, h.apart q _ g c hget hg⟩
        · have := q3.length
          simp at h2
          omega
        · rw [k2, k3 rfl, List.append_nil]; rfl
        · obtain ⟨j, hj⟩ := List.getElem?_of_mem hx
          obtain ⟨a, ha, har⟩ := q3.getR j x hj
          exact har.one (List.all_eq_true.1 k5 a (by simp [List.mem_of_getElem? ha]))
      · cases hb3
    · cases hb1
  · cases hb
/-! ### an entry -/
def entryOrc (f0 : FuncId) (r0 : Nat) : Orc := fun f args hp =>
  bif Nat.beq f f0 then
    match args with
    | [p, .pv (.one (.int .u64 x))] => bif refRow hp r0 p then (match hp.gh.m with
      | n :: r => bif inRs hp.gh.k [U] [x] then some (xlets hp 1 (n :: x :: .lit (.ofNat 8) :: r) [U, R 6] (fun _ => []) fun vs hp => match vs with
        | [v, e] => eK v fun v => eK (mkCmp .eql e (.lit (.ofNat 0))) fun c => .ret (.tup [.one (.int .u64 v), .one (.bool c)], hp)
        | _ => .bad "entry") else some (.bad "entry where")
      | _ => some (.bad "entry of what")) else some (.bad "entry of which")
    | _ => some (.bad "entry")
  else none
theorem entryOrc_ok (hp0 : px r0 = some (bytesV sb n)) (hf : ft 1 = wordF ct) : OrcOk Tryz.prog (refX sb n ct px) ft (entryOrc 115 r0) := by
  intro f args hp t h0 C w vs hC h hv
  unfold entryOrc at h0
  cases hb : Nat.beq f 115 with
  | false => rw [hb, cond_false] at h0; cases h0
  | true =>
    rw [hb, cond_true] at h0
    have hff : f = 115 := Nat.eq_of_beq_eq_true hb
    subst hff
    split at h0
    · rename_i p x
      cases hi : refRow hp r0 p with
      | false => rw [hi, cond_false] at h0; cases h0; exact CallOk.bad
      | true =>
        rw [hi, cond_true] at h0
        split at h0
        · rename_i e r hm
          cases hin : inRs hp.gh.k [U] [x] with
          | false => rw [hin, cond_false] at h0; cases h0; exact CallOk.bad
          | true =>
            rw [hin, cond_true] at h0
            cases h0
            cases hv with
            | @cons _ v1 _ vs1 q1 q2 =>
            cases q2 with
            | @cons _ v2 _ vs2 q2 q3 =>
            cases q3
            obtain ⟨g, q, c, cs, rfl, hg, hmach, _, _⟩ := refRow_ok hC hp0 h hi q1
            obtain ⟨s2, rfl⟩ := q2
            obtain ⟨g1, g2, g3, g4, g5⟩ := gh_ref hC h hm
            intro Φ hx
            have hxr := (inRs_ok h.ks hin (fun y hy => by rw [List.mem_singleton.1 hy]; exact s2)).2 0 U (x.den C.V) rfl rfl
            have hx0 : (0 : Int) ≤ x.den C.V := hxr.1
            have hx1 : x.den C.V ≤ (18446744073709551615 : Int) := hxr.2
            have hin2 : InB [U, R 6] (C.V.f 1 ((e :: x :: E.lit (.ofNat 8) :: r).map (E.den C.V))) := by
              rw [hC.1, hf]
              simp only [List.map_cons, g1]
              exact wordF_in g4.2.1
            obtain ⟨C', hp', outs, n1, n2, n3, n4, n5, _⟩ := xlets_ok h (fun y hy => by
              rcases List.mem_cons.1 hy with rfl | hy
              · exact g3
              rcases List.mem_cons.1 hy with rfl | hy
              · exact s2
              rcases List.mem_cons.1 hy with rfl | hy
              · exact trivial
              · exact g2 y hy) hin2 (fun _ _ _ _ _ q hq => by cases hq) hx
            rw [hC.1, hf] at n4
            simp only [List.map_cons, g1, den_lit] at n4
            split at n5
            · rename_i v er
              rw [eK_eq, eK_eq] at n5
              simp only [List.map_cons, List.map_nil] at n4
              obtain ⟨c1, c2⟩ := mkCmp_ok .eql (b := .lit (.ofNat 0)) (n3 er (by simp)) trivial
              refine (ref24_entry hmach g4 (x.den C.V) hx0 (by omega)).mono ?_
              rintro e' w' ⟨rfl, hbel⟩
              obtain ⟨k1, k2⟩ := n1.below' hbel
              refine ⟨C', _, .tup [.one (.int .u64 v), .one (.bool (mkCmp .eql er (.lit (.ofNat 0))))], hp', rfl, ?_, k1, n2.trans k2, n5⟩
              have hv : EntryIs n (putsL n ct (r.map (E.den C.V))) (x.den C.V) = .tuple #[.int .u64 (v.den C'.V), .bool (decide (er.den C'.V = 0))] := by
                simp only [wordF, Int.toNat_natCast, show Int.ofNat 8 = (8 : Int) from rfl, show (8 : Int).toNat = 8 from rfl] at n4
                unfold EntryIs
                split
                · rename_i hme
                  rw [if_pos hme] at n4
                  simp only [List.cons.injEq, and_true] at n4
                  rw [n4.1, n4.2]; rfl
                · rename_i hme
                  rw [if_neg hme] at n4
                  simp only [List.cons.injEq, and_true] at n4
                  rw [n4.1, n4.2, decide_eq_false hme]
              rw [hv]
              refine ⟨[_, _], .cons ⟨n3 v (by simp), rfl⟩ (.cons ⟨c1, ?_⟩ .nil), rfl⟩
              rw [c2, den_lit]
              simp only [cmpD]
              rw [Bool.beq_eq_decide_eq]
              rfl
            · exact n5.elim
        · cases h0; exact CallOk.bad
    · cases h0; exact CallOk.bad
end
end
end Go.Proofs.YtkogjjeoihnjpaaGreat.Sx
end
section
set_option linter.unusedVariables false
set_option linter.unusedSimpArgs false
namespace Go.Proofs.YtkogjjeoihnjpaaGreat.Sx
open Go Go.RowKit
noncomputable section
/-- some machine of the program's has that memory -/
def MacW (n : Nat) (ct : Nat → Nat) : Prop := ∃ (w : World) (p b : Nat) (cs : List Value) (S : Nat → Prop), MachAt w p b cs ∧ (∀ c ∈ cs, c.oneCell' = true) ∧ RamAt w b n ct S ∧ p ≠ b ∧ ¬ S p
/-- how the world goes on behind a method of the document's machine -/
def RefTo2 (w w' : World) (p sb n : Nat) (ct : Nat → Nat) : Prop := RefMem w' sb n ct ∧ Turned (fun g => g = p ∨ g = sb) w w' ∧ w'.heap[p]? = w.heap[p]?
/-- a method of the document's machine answers what F says of the arguments; ol: where the words begin that are put -/
def RTells (f : FuncId) (ss : List Sh) (ix : List Nat) (rs : List (Int × Int)) (fk : Ks) (rsh : Rs) (ol : Nat) (F : (Nat → Nat) → List Int → List Int) : Prop :=
  ∀ args, InB rs args → KsOk (env0 args) fk → ∀ (w : World) (p sb n : Nat) (cs : List Value) (ct : Nat → Nat), MacW n ct → RefAt w p sb n cs → (∀ c ∈ cs, c.oneCell' = true) → RefMem w sb n ct → p ≠ sb →
    Calls Tryz.prog f (.pointer (some ⟨p, 0, none⟩) :: shVs ss (ix.map fun i => args.getD i 0)).toArray w fun e w' => e = .returned (rsV rsh (F ct (args ++ [(n : Int)]))) ∧ RefTo2 w w' p sb n (putsL n ct ((F ct (args ++ [(n : Int)])).drop ol))
def pxR (sb n : Nat) (i : Nat) : Option Value := if i = 999 then some (bytesV sb n) else none
def xR (sb n : Nat) (cs : List Value) (i : Nat) : Value := if i = 999 then bytesV sb n else cs.getD (i - 500) Go.undef
def refRow0 (k : Nat) : List SC := .int .i64 (.var (.ofNat 4) (.ofNat 256) k) :: .ext 999 :: exts 500 66
def hpR (k : Nat) (hp : Hp) : Hp := ⟨[(900, .cells (refRow0 k) 62 68 false)], hp.nx, hp.lim, [], ⟨hp.gh.k, hp.gh.d, [.var (.ofNat 4) (.ofNat 256) k]⟩⟩
def argsR (ss : List Sh) (ix : List Nat) (rs : List (Int × Int)) : List SV := .sc (.ptr 900 0) :: (shSVs ss (ix.map fun i => litV ((vars 0 rs).getD i (.lit (.ofNat 0))))).map .pv
def rrun (orc : Orc) (f0 : FuncId) (ss : List Sh) (ix : List Nat) (rs : List (Int × Int)) (hp : Hp) : XR := xfn Tryz.prog tab.get orc 5000 100 f0 (argsR ss ix rs) (hpR rs.length hp)
/-- is the machine as it was? -/
def refIs (k : Nat) (hp : Hp) : Bool := match hget hp.H 900 with
  | some (.cells row' T es false) => bif Nat.beq T 62 then listSame scSame row' (refRow0 k) else false
  | _ => false
/-- the same, or known to be -/
def allEqF (k : Ks) : List E → List E → Bool
  | [], [] => true
  | a :: xs, b :: ys => bif (bif eEq a b then true else (match decI k (mkCmp .eql a b) with | some true => true | _ => false)) then allEqF k xs ys else false
  | _, _ => false
theorem allEqF_ok {V : Env} {d : Nat → Prop} {k : Ks} (hk : KsOk V k) : ∀ {xs ys : List E}, (∀ e ∈ xs, e.sc V d) → (∀ e ∈ ys, e.sc V d) → allEqF k xs ys = true → xs.map (E.den V) = ys.map (E.den V)
  | [], [], _, _, _ => rfl
  | a :: xs, b :: ys, hx, hy, h => by
    obtain ⟨h1, h2⟩ := and_bif (show (bif _ then allEqF k xs ys else false) = true from h)
    have ih := allEqF_ok hk (fun e he => hx e (List.mem_cons_of_mem _ he)) (fun e he => hy e (List.mem_cons_of_mem _ he)) h2
    have e1 : a.den V = b.den V := by
      cases hab : eEq a b with
      | true => exact eEq_den hab
      | false =>
        rw [hab, cond_false] at h1
        split at h1
        · rename_i hd
          obtain ⟨c1, c2⟩ := mkCmp_ok .eql (hx a List.mem_cons_self) (hy b List.mem_cons_self)
          have h3 := decI_ok hk c1 hd
          rw [c2] at h3
          simpa [cmpD] using h3
        · cases h1
    simp only [List.map_cons, e1, ih]
  | [], _ :: _, _, _, h => nomatch h
  | _ :: _, [], _, _, h => nomatch h
def rsameB (rsh : Rs) (np k : Nat) (a b : SV × Hp) : Bool := match mouts rsh np a, mouts rsh np b with
  | some x, some y => bif allEqF b.2.gh.k x y then refIs k b.2 else false
  | _, _ => false
theorem getD_vars {rs : List (Int × Int)} {args : List Int} {V : Env} (hd : (vars 0 rs).map (E.den V) = args) (i : Nat) : ((vars 0 rs).getD i (.lit (.ofNat 0))).den V = args.getD i 0 := by
  rw [← hd]
  simp only [List.getD, List.getElem?_map]
  cases (vars 0 rs)[i]? <;> rfl
theorem getD_sc {rs : List (Int × Int)} {V : Env} {d : Nat → Prop} (hs : ∀ e ∈ vars 0 rs, e.sc V d) (i : Nat) : ((vars 0 rs).getD i (.lit (.ofNat 0))).sc V d := by
  rw [List.getD]
  cases h : (vars 0 rs)[i]? with
  | none => exact trivial
  | some e => exact hs e (List.mem_of_getElem? h)
set_option maxHeartbeats 1000000 in
theorem rtells_of_run {ftM : (Nat → Nat) → Ft} {orc orcR : Orc} {f0 g0 : FuncId} {ss ss' : List Sh} {ix : List Nat} {rs : List (Int × Int)} {fk : Ks} {rsh : Rs} {np : Nat} (ho : ∀ b n ct, OrcOk Tryz.prog (ramX b n ct (pxM b)) (ftM ct) orc) (hoR : ∀ sb n ct, MacW n ct → OrcOk Tryz.prog (refX sb n ct (pxR sb n)) (ftM ct) orcR)
    (hl : rs.length ≤ 400) (hf : fk.all (fun q => scB rs q.1) = true) (h1 : (mrun orc f0 ss rs fk).one = true)
    (hr : (mrun orc f0 ss rs fk).every (fun a => bif Nat.ble 1000 a.2.nx then (rrun orcR g0 ss' ix rs a.2).every (rsameB rsh np rs.length a) else false) = true) :
    RTells g0 ss' ix rs fk rsh (rsN rsh) (MFof (mrun orc f0 ss rs fk) rsh np ftM) := by
  intro args hi hk w p sb n cs ct hMW hat hone hmem hpsb
  obtain ⟨w0, p0, b0, cs0, S0, hm, hone0, hr0, hpb, hpS⟩ := id hMW
  obtain ⟨hn4, hn256⟩ : 4 ≤ n ∧ n ≤ 256 := ⟨hmem.2.2.1, hmem.2.2.2⟩
  have hi' : InB (rs ++ [nR]) (args ++ [(n : Int)]) := inB_snoc hi (show (4 : Int) ≤ n by omega) (show (n : Int) ≤ 256 by omega)
  have hf' : fk.all (fun q => scB (rs ++ [nR]) q.1) = true := List.all_eq_true.2 fun q hq => scB_snoc (List.all_eq_true.1 hf q hq)
  have hk' : KsOk (env0 (args ++ [(n : Int)])) fk := fun q hq => by
    have := hk q hq
    unfold E.tr at *
    rw [env0_snoc hi.1 (List.all_eq_true.1 hf q hq)]; exact this
  have hl' : (rs ++ [nR]).length ≤ 500 := by simp; omega
  have hnk : (rs ++ [nR])[rs.length]? = some (.ofNat 4, .ofNat 256) := by rw [List.getElem?_append_right (Nat.le_refl _)]; simp [nR]
  have hkn : (args ++ [(n : Int)]).getD rs.length 0 = n := by rw [List.getD, List.getElem?_append_right (by rw [hi.1]; exact Nat.le_refl _)]; simp [hi.1]
  have hrow : All2 (SC.rel (ctxM (ftM ct) (args ++ [(n : Int)]) b0 n p0 ct cs0 S0)) mrow cs0 := by
    have := exts_rel (C := ctxM (ftM ct) (args ++ [(n : Int)]) b0 n p0 ct cs0 S0) (cs := cs0) (i := 500) fun j c hj => by
      have hjl : j < cs0.length := (List.getElem?_eq_some_iff.1 hj).1
      have := hm.1
      refine ⟨?_, show 500 + j < 1000 by omega, hone0 c (List.mem_of_getElem? hj)⟩
      show xM b0 cs0 (500 + j) = c
      unfold xM
      rw [if_neg (by omega), show 500 + j - 500 = j by omega, List.getD, hj]; rfl
    rw [hm.1] at this
    exact this
  have HR := hrelM (ft := ftM ct) (mrow := mrow) (fk := fk) hi' hl' hf' hk' hnk hkn hm hrow (exts_ok 500 66) hr0 hpb hpS
  have hvs := varsM_sc (ft := ftM ct) (b := b0) (n := n) (p := p0) (ct := ct) (cs := cs0) (S := S0) hi' hl'
  have CALL := xfn_ok (X := ramX b0 n ct (pxM b0)) (ft := ftM ct) tab_ok (ho b0 n ct) mixed 5000 100 f0 (argsL ss (rs ++ [nR])) (hpM mrow fk rs.length) _ w0 _ ctxM_is HR (argsL_rel hi' hl')
    (fun V' a => (mrun orc f0 ss rs fk).pick (ctxM (ftM ct) (args ++ [(n : Int)]) b0 n p0 ct cs0 S0).V = some (V', a) ∧ _) (T.holds_pick h1 (T.every_holds hr))
  obtain ⟨e0, w0', C', v, sv, hp', rfl, hrel, hH, hK, hpick, hb⟩ := calls_some CALL
  simp only at hb
  obtain ⟨hnx, hb⟩ := and_bif hb
  have hnx : 1000 ≤ hp'.nx := Nat.le_of_ble_eq_true hnx
  have hvd : ∀ i, i < 1000 → C'.vd i := fun i hi => (hK.le.v i hi).1
  let C2 : Ctx := ⟨⟨C'.V.i, C'.V.b, xR sb n cs, C'.V.f⟩, C'.vd, fun q => if q = 900 then some (p, 1) else none, refX sb n ct (pxR sb n), fun g => g = sb, fun g => g = p⟩
  have hsim : C2.V.Sim C'.V := ⟨rfl, rfl, rfl⟩
  have hva : (vars 0 (rs ++ [nR])).map (E.den C2.V) = args ++ [(n : Int)] := by
    rw [hsim.den]
    exact (den_map (C := ctxM (ftM ct) (args ++ [(n : Int)]) b0 n p0 ct cs0 S0) hK.le hvs).trans (varsM_den hi')
  have hv3 : ∀ e ∈ vars 0 (rs ++ [nR]), e.sc C2.V C2.vd := fun e he => hsim.sc e (E.sc_le hK.le e (hvs e he)).1
  have hva0 : (vars 0 rs).map (E.den C2.V) = args := vars_den hi.1 fun j m hj => by
    have h0 : C2.V.i j = (ctxM (ftM ct) (args ++ [(n : Int)]) b0 n p0 ct cs0 S0).V.i j := (hK.le.v j (show j < 1000 by have := (List.getElem?_eq_some_iff.1 hj).1; have := hi.1; omega)).2.1
    rw [Nat.zero_add, h0]
    show (args ++ [(n : Int)]).getD j 0 = m
    rw [List.getD, List.getElem?_append_left (List.getElem?_eq_some_iff.1 hj).1, hj]; rfl
  have hv0 : ∀ e ∈ vars 0 rs, e.sc C2.V C2.vd := fun e he => by
    obtain ⟨j, r, q1, rfl⟩ := vars_get he
    have hj : j < rs.length := (List.getElem?_eq_some_iff.1 q1).1
    refine hv3 _ ?_
    obtain ⟨q, hq⟩ : ∃ q, (vars 0 (rs ++ [nR]))[j]? = some q := ⟨_, List.getElem?_eq_getElem (by
      have := congrArg List.length hva
      simp only [List.length_map, List.length_append, List.length_singleton] at this
      have := hi.1
      omega)⟩
    have hq' := List.mem_of_getElem? hq
    have : q = .var r.1 r.2 (0 + j) := by
      have e1 : ∀ (s : Nat) (l : List (Int × Int)) (j : Nat) (r : Int × Int), l[j]? = some r → (vars s l)[j]? = some (.var r.1 r.2 (s + j)) := by
        intro s l
        induction l generalizing s with
        | nil => intro j r h; simp at h
        | cons x l ih =>
          intro j r h
          cases j with
          | zero => simp only [List.getElem?_cons_zero, Option.some.injEq] at h; subst h; rfl
          | succ j =>
            simp only [List.getElem?_cons_succ] at h
            have := ih (s + 1) j r h
            simp only [vars, List.getElem?_cons_succ, this]
            congr 2; omega
      have := e1 0 (rs ++ [nR]) j r (by rw [List.getElem?_append_left hj]; exact q1)
      rw [hq] at this
      exact Option.some.inj this
    rw [← this]; exact hq'
  have hnden : (E.var (.ofNat 4) (.ofNat 256) rs.length).den C2.V = n := by
    rw [den_var]
    have h0 : C2.V.i rs.length = (ctxM (ftM ct) (args ++ [(n : Int)]) b0 n p0 ct cs0 S0).V.i rs.length := (hK.le.v rs.length (show rs.length < 1000 by omega)).2.1
    rw [h0]; exact hkn
  have hnsc : (E.var (.ofNat 4) (.ofNat 256) rs.length).sc C2.V C2.vd := ⟨hvd _ (by omega), by
    have := hnden
    rw [den_var] at this
    show (4 : Int) ≤ C2.V.i rs.length
    omega, by
    have := hnden
    rw [den_var] at this
    show C2.V.i rs.length ≤ (256 : Int)
    omega⟩
  have hblk : Blk.rel C2 1 w.heap[p]? (.cells (refRow0 rs.length) 62 68 false) := by
    have he := exts_rel (C := C2) (cs := cs) (i := 500) fun j c hj => by
      have hjl : j < cs.length := (List.getElem?_eq_some_iff.1 hj).1
      have := hat.1
      refine ⟨?_, hvd _ (by omega), hone c (List.mem_of_getElem? hj)⟩
      show xR sb n cs (500 + j) = c
      unfold xR
      rw [if_neg (by omega), show 500 + j - 500 = j by omega, List.getD, hj]; rfl
    rw [hat.1] at he
    refine ⟨Value.int .i64 n :: bytesV sb n :: cs, [], .cons ⟨hnsc, by rw [hnden]⟩ (.cons ⟨hvd _ (by omega), ?_, rfl⟩ he), by rw [List.append_nil]; exact hat.2, fun _ => rfl, (fun h => nomatch h), ?_⟩
    · show bytesV sb n = xR sb n cs 999
      unfold xR; rw [if_pos rfl]
    · simp only [refRow0, List.all_cons, exts_ok 500 66]; rfl
  have hget : ∀ q blk, hget (hpR rs.length hp').H q = some blk → q = 900 ∧ blk = .cells (refRow0 rs.length) 62 68 false := fun q blk h => by
    simp only [hpR, Sx.hget] at h
    split at h
    · rename_i hq; cases h; exact ⟨hq.symm, rfl⟩
    · cases h
  have hH2 : HRel C2 (hpR rs.length hp') w := by
    refine ⟨⟨fun q blk h => ?_, fun q q' blk blk' g c c' h h' _ _ => ?_⟩, ⟨?_, ?_, fun q hq => ?_, fun q hq => ?_⟩, fun q blk g c _ h => ?_, fun q blk g c h _ hb => ?_, fun q hq => ?_, fun q g c h => ?_⟩
    · obtain ⟨rfl, rfl⟩ := hget q blk h
      exact ⟨p, 1, by simp [C2], hblk⟩
    · rw [(hget q blk h).1, (hget q' blk' h').1]
    · refine ⟨[], ?_, hmem, fun g => Iff.rfl⟩
      show [(E.var (.ofNat 4) (.ofNat 256) rs.length).den C2.V] = _
      rw [hnden]
    · intro e he
      rw [List.mem_singleton.1 (show e ∈ [E.var (.ofNat 4) (.ofNat 256) rs.length] from he)]
      exact hnsc
    · obtain ⟨k1, k2⟩ := hH.ext.facts q hq
      exact ⟨hsim.sc _ k1, by unfold E.tr at *; rw [hsim.ev]; exact k2⟩
    · have hd := hH.ext.defs q hq
      exact ⟨fun e he => hsim.sc e (hd.as e he), fun e he => hsim.sc e (hd.outs e he), by rw [hsim.den]; exact hd.eq⟩
    · simp only [C2] at h
      split at h
      · cases h; exact hpsb
      · cases h
    · obtain ⟨rfl, rfl⟩ := hget q blk h
      simp [C2] at hb
      exact hb.1.symm
    · rcases hq with ⟨h1, h2⟩ | ⟨r, hr, _⟩
      · have h1 : hp'.nx ≤ q := h1
        refine ⟨by simp only [C2]; rw [if_neg (by omega)], (hH.free q (.inl ⟨h1, h2⟩)).2⟩
      · simp [hpR] at hr
    · simp only [C2] at h
      split at h
      · cases h; exact blk_lt hat.2
      · cases h
  have hargs : All2 (SV.rel C2) (argsR ss' ix rs) (.pointer (some ⟨p, 0, none⟩) :: shVs ss' (ix.map fun i => args.getD i 0)) := by
    refine .cons ⟨p, 1, by simp [C2], rfl⟩ ?_
    have := shSVs_rel (C := C2) ss' (l := ix.map fun i => litV ((vars 0 rs).getD i (.lit (.ofNat 0)))) fun e he => by
      obtain ⟨i, _, rfl⟩ := List.mem_map.1 he
      exact (litV_ok (getD_sc hv0 i)).1
    rw [List.map_map, show (ix.map (E.den C2.V ∘ fun i => litV ((vars 0 rs).getD i (.lit (.ofNat 0))))) = ix.map fun i => args.getD i 0 from List.map_congr_left fun i _ => ((litV_ok (getD_sc hv0 i)).2).trans (getD_vars hva0 i)] at this
    exact this.map_pv
  have hft : C'.V.f = ftM ct := hK.le.f
  have hC2 : C2.Is (refX sb n ct (pxR sb n)) (ftM ct) := ⟨hft, rfl, fun i v hv => by
    have hv : pxR sb n i = some v := hv
    unfold pxR at hv
    split at hv
    · rename_i hi
      cases hv
      subst hi
      refine ⟨hvd _ (by omega), ?_⟩
      show xR sb n cs 999 = _
      unfold xR; rw [if_pos rfl]
    · cases hv⟩
  refine (xfn_ok (X := refX sb n ct (pxR sb n)) (ft := ftM ct) tab_ok (hoR sb n ct hMW) mixed 5000 100 g0 (argsR ss' ix rs) (hpR rs.length hp') C2 w _ hC2 hH2 hargs _ (T.every_holds hb)).mono ?_
  rintro e w2 ⟨C3, v3, sv3, hp3, rfl, hrel3, hH3, hK3, hb3⟩
  unfold rsameB at hb3
  split at hb3
  · rename_i x y hx hy
    obtain ⟨hb4, hb5⟩ := and_bif hb3
    have hF : MFof (mrun orc f0 ss rs fk) rsh np ftM ct (args ++ [(n : Int)]) = x.map (E.den C'.V) := by
      obtain ⟨W', k1, k2⟩ := T.pick_sim (envX_sim (ftM ct) (args ++ [(n : Int)]) (xM b0 cs0)) hpick
      unfold MFof; rw [k1]; simp only [hx, Option.getD_some, k2.den]
    have hxsc : ∀ e ∈ x, e.sc C2.V C2.vd := by
      unfold mouts at hx
      split at hx
      · rename_i es0 e0 r hes0 hmem0
        obtain ⟨l, hl0, rfl⟩ := Option.map_eq_some_iff.1 hx
        simp only at hes0 hmem0
        obtain ⟨m1, _⟩ := rsEs_ok hes0 hrel
        have hC' := ctxM_is (ft := ftM ct) (args := args ++ [(n : Int)]) (b := b0) (n := n) (p := p0) (ct := ct) (cs := cs0) (S := S0) |>.le hK.le
        obtain ⟨g1, g2, g3, S2, g4, g5⟩ := gh_mem hC' hH hmem0
        obtain ⟨l1, l2, l3⟩ := padP_ok (n := n) (ct := ct) hl0 g2
        intro e he
        refine hsim.sc e ?_
        rcases List.mem_append.1 he with he | he
        · exact m1 e he
        · exact l1 e he
      · cases hx
    have hysc : ∀ e ∈ y, e.sc C3.V C3.vd := by
      have hy2 := hy
      unfold mouts at hy2
      split at hy2
      · rename_i es0 e0 r hes0 hmem0
        obtain ⟨l, hl0, rfl⟩ := Option.map_eq_some_iff.1 hy2
        simp only at hes0 hmem0
        obtain ⟨m1, _⟩ := rsEs_ok hes0 hrel3
        obtain ⟨g1, g2, g3, g4, g5⟩ := gh_ref (hC2.le hK3.le) hH3 hmem0
        obtain ⟨l1, _, _⟩ := padP_ok (n := n) (ct := ct) hl0 g2
        intro e he
        rcases List.mem_append.1 he with he | he
        · exact m1 e he
        · exact l1 e he
      · cases hy2
    have hxy : x.map (E.den C'.V) = y.map (E.den C3.V) := by
      rw [← allEqF_ok (d := C3.vd) hH3.ks (fun e he => (E.sc_le hK3.le e (hxsc e he)).1) hysc hb4, den_map hK3.le hxsc, hsim.den]
    rw [hF, hxy]
    unfold mouts at hy
    split at hy
    · rename_i es0 e0 r hes0 hmem0
      obtain ⟨l, hl0, rfl⟩ := Option.map_eq_some_iff.1 hy
      simp only at hes0 hmem0
      obtain ⟨m1, rfl⟩ := rsEs_ok hes0 hrel3
      have hlen0 := rsEs_len hes0
      have hC3 := hC2.le hK3.le
      obtain ⟨g1, g2, g3, g4, g5⟩ := gh_ref hC3 hH3 hmem0
      obtain ⟨l1, l2, l3⟩ := padP_ok (n := n) (ct := ct) hl0 g2
      refine ⟨?_, ?_, ⟨hK3.os, hK3.tape, hK3.output, hK3.size, fun g hg hn => ?_⟩, ?_⟩
      · rw [List.map_append, rsV_more rsh _ _ (by rw [List.length_map, hlen0]; exact Nat.le_refl _)]
      · rw [List.map_append, List.drop_left' (by rw [List.length_map, hlen0]), l2]
        exact g4
      · exact hK3.keep g hg (fun ho => hn (.inl ho)) (fun hs => hn (.inr hs))
      · unfold refIs at hb5
        split at hb5
        · rename_i row' T es' hget3
          obtain ⟨q1, q2⟩ := and_bif hb5
          have q1 : T = 62 := Nat.eq_of_beq_eq_true q1
          have q2 : row' = refRow0 rs.length := listSame_ok (fun _ _ => scSame_ok) q2
          subst q1 q2
          obtain ⟨g, c, k1, vs, sp, k2, k3, k4, _⟩ := hH3.at_ 900 _ hget3
          have k5 := hK3.le.bl 900 (p, 1) (by simp [C2])
          rw [k1] at k5; cases k5
          obtain ⟨vs2, sp2, j2, j3, j4, _⟩ := hblk
          have hvs' : vs = vs2 := by
            have j2' := j2.mono fun _ _ => SC.rel.le hK3.le _ _
            unfold refRow0 at k2 j2'
            cases k2 with
            | cons a1 a2 =>
            cases j2' with
            | cons c1 c2 =>
            rw [a1.2, c1.2, ext_same (fun c hc => by
              rcases List.mem_cons.1 hc with rfl | hc
              · exact ⟨999, rfl⟩
              · exact exts_all 500 66 c hc) a2 c2]
          rw [k3, k4 rfl, j3, j4 rfl, hvs']
        · cases hb5
    · cases hy
  · cases hb3
end
end Go.Proofs.YtkogjjeoihnjpaaGreat.Sx
end
section
set_option linter.unusedVariables false
set_option linter.unusedSimpArgs false
namespace Go.Proofs.YtkogjjeoihnjpaaGreat.Sx
open Go Go.RowKit
set_option maxRecDepth 100000
set_option maxHeartbeats 4000000 in
theorem awake_run : (xfn Tryz.prog tab.get mayO 5000 100 15 [] hp1).every (fun a => a.1.isB true) = true := by kernel_rfl
noncomputable def awOrc : Orc := memo0 15 true
theorem awOrc_ok (X : Ext) (ft : Ft) : OrcOk Tryz.prog X ft awOrc := memo0_ok tab_ok mixed mayO_ok awake_run X ft
theorem isa_awake (w : World) : Calls Tryz.prog 15 #[] w (Gives (.bool true) w) := by
  refine (awOrc_ok noExt (envOf []).f 15 [] hp1 _ rfl (ctx1 (envOf [])) w [] ⟨rfl, rfl, fun _ _ h => nomatch h⟩ (hrel1 _ w) .nil (fun _ a => a.1.isB true = true) rfl).mono ?_
  rintro e w' ⟨C', v, sv, hp', rfl, hrel, hH, hK, hb⟩
  have := SV.isB_ok hb
  simp only at this
  subst this
  exact ⟨by rw [hrel.2]; rfl, hK.belowN⟩
end Go.Proofs.YtkogjjeoihnjpaaGreat.Sx
end
