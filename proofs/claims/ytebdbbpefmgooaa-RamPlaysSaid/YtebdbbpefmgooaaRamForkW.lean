/- RamPlays: one call of the script, whatever its kind; and a copy that goes its own way: its contracts. -/
import Derived.Test.YtebdbbpefmgooaaRamStep1
import Derived.Test.YtebdbbpefmgooaaRamStep2
import Derived.Test.YtebdbbpefmgooaaRamNilW
set_option linter.unusedVariables false
set_option linter.unusedSimpArgs false
namespace Go.Proofs.Ytebdbbpefmgooaa
open Go.RowKit
set_option maxRecDepth 100000
theorem BothTo.le {w w' : World} {B b n wb : Nat} {S : Nat → Prop} {rv : Value} {k k' : Nat} (h : BothTo w w' B b n wb S rv k) (hk : k ≤ k') : BothTo w w' B b n wb S rv k' := by
  obtain ⟨ct, S', rv', c', m', h1, h2, h3⟩ := h
  exact ⟨ct, S', rv', c', m', h1, Nat.le_trans h2 hk, h3⟩
theorem bq {a b : Int} (h : a ≠ b) : (a == b) = false := by simpa using h
theorem step_any {w : World} {B b n wb : Nat} {ct : Nat → Nat} {S : Nat → Prop} {rv : Value} {c : Nat → Int × Int} {m : Nat} (h : Both w B b n wb ct S rv c m) (n4 : (4 : Int) ≤ n) (n256 : (n : Int) ≤ 256) (hmx : (m : Int) + 200 ≤ 100000000)
    (kd k x v : Int) (raw : Bool) (a a2 : Option Addr) (l ca l2 ca2 : Nat) (x0 : 0 ≤ x) (x1 : x < 18446744073709551616) (v0 : 0 ≤ v) (v1 : v < 18446744073709551616) (V : Nat → Int) (hV : ∀ i, 0 ≤ V i ∧ V i ≤ 255) (hl : (l : Int) ≤ 200) (hn : a = none → ca = 0) (hle : l ≤ ca) (hr : IsRow w a l (fun i => .int .u8 (V i))) (hlo : 0 < l → ∀ b o s, a = some ⟨b, o, s⟩ → b < B)
    (Z : Nat → Bool) (hl2 : (l2 : Int) ≤ 140737488351232) (hn2 : a2 = none → ca2 = 0) (hle2 : l2 ≤ ca2) (hr2 : IsRow w a2 l2 (fun i => .bool (Z i))) (hlo2 : 0 < l2 → ∀ b o s, a2 = some ⟨b, o, s⟩ → b < B) :
    Calls Try.prog 51 #[.pointer (some ⟨b, 0, none⟩), .pointer (some ⟨wb, 0, none⟩), .agg #[.int .i64 kd, .int .i64 k, .int .u64 x, .bool raw, .slice a l ca, .slice a2 l2 ca2, .int .u64 v]] w fun e w' => e = .returned (.bool true) ∧ BothTo w w' B b n wb S rv (m + 200) := by
  by_cases e1 : kd = 1
  · subst e1; exact step_some h n4 n256 hmx k x v raw a a2 l ca l2 ca2 x0 x1 V hV hl hn hle hr hlo Z hl2 hn2 hle2 hr2 hlo2
  by_cases e2 : kd = 2
  · subst e2
    obtain ⟨u, rfl⟩ := Int.eq_ofNat_of_zero_le v0
    exact (step_put h n4 n256 (by omega) k x u raw _ _ x0 x1 (by omega)).mono fun _ _ q => ⟨q.1, q.2.le (by omega)⟩
  by_cases e3 : kd = 3
  · subst e3
    exact (step_read h.ram h.ref n4 n256 h.same k x v raw _ _ x0 x1).mono fun _ _ q => ⟨q.1, (h.to q.2).le (by omega)⟩
  by_cases e4 : kd = 4
  · subst e4
    exact (step_word h.ram h.ref n4 n256 h.same k x v raw _ _ x0 x1).mono fun _ _ q => ⟨q.1, (h.to q.2).le (by omega)⟩
  exact step_write h n4 n256 hmx kd k x v raw a l ca _ x0 x1 V hV hl hn hle hr hlo (bq e1) (bq e2) (bq e3) (bq e4)
/-! ### the copy -/
/-- g is a memory of its own, of blocks that were not there in wr, with bytes ct; nothing that was there is turned -/
def Own2 (wr w : World) (g n : Nat) (ct : Nat → Nat) : Prop := ∃ S, RamAt w g n ct S ∧ (∀ q, S q → wr.heap.size ≤ q) ∧ Below wr.heap.size wr w
theorem Own2.below {wr w w' : World} {g n : Nat} {ct : Nat → Nat} (h : Own2 wr w g n ct) (hb : Below w.heap.size w w') : Own2 wr w' g n ct := by
  obtain ⟨S, h1, h2, h3⟩ := h
  exact ⟨S, h1.below hb, h2, h3.trans (hb.mono h3.size)⟩
theorem Own2.to {wr w w' : World} {g n : Nat} {ct ct' : Nat → Nat} (h : Own2 wr w g n ct) (hb : ∀ S, RamAt w g n ct S → RamTo w w' g n ct' S) : Own2 wr w' g n ct' := by
  obtain ⟨S, h1, h2, h3⟩ := h
  obtain ⟨S', q1, q2, q3⟩ := hb S h1
  have := h3.size
  refine ⟨S', q1, fun q hq => ?_, h3.trans (q2.below h3.size h2)⟩
  rcases q3 q hq with k | k
  · exact h2 q k
  · omega
theorem own2_fork {w : World} {b n : Nat} {ct : Nat → Nat} {S : Nat → Prop} (h : RamAt w b n ct S) :
    Calls Try.prog 49 #[.pointer (some ⟨b, 0, none⟩)] w fun e w' => e = .returned (.pointer (some ⟨w.heap.size + 1, 0, none⟩)) ∧ Own2 w w' (w.heap.size + 1) n ct := by
  obtain ⟨m, pg, h, rfl⟩ := h
  refine (ram_fork h).mono ?_
  rintro e w' ⟨rfl, hb, S, h1, h2⟩
  exact ⟨rfl, S, h1, h2, hb⟩
theorem own2_same {wr w : World} {b g n : Nat} {ct ct2 : Nat → Nat} {S : Nat → Prop} (h0 : RamAt wr b n ct S) (h : Own2 wr w g n ct2) (v : Bool) (hv : v = true ↔ AllEq n ct2 ct) :
    Calls Try.prog 50 #[.pointer (some ⟨g, 0, none⟩), .pointer (some ⟨b, 0, none⟩)] w fun e w' => e = .returned (.bool v) ∧ Own2 wr w' g n ct2 := by
  have hh := h
  obtain ⟨S', h1, h2, h3⟩ := h
  have h4 : RamAt w b n ct S := h0.below h3
  obtain ⟨m1, p1, k1, _⟩ := h4
  obtain ⟨m2, p2, k2, _⟩ := h1
  refine (ram_same k2 k1).mono ?_
  rintro e w' ⟨⟨u, rfl, hu⟩, hb⟩
  refine ⟨by rw [show u = v from by cases u <;> cases v <;> simp_all], hh.below hb⟩
theorem own2_same2 {wr w : World} {b g n : Nat} {ct ct2 : Nat → Nat} {S : Nat → Prop} (h0 : RamAt wr b n ct S) (h : Own2 wr w g n ct2) (v : Bool) (hv : v = true ↔ AllEq n ct ct2) :
    Calls Try.prog 50 #[.pointer (some ⟨b, 0, none⟩), .pointer (some ⟨g, 0, none⟩)] w fun e w' => e = .returned (.bool v) ∧ Own2 wr w' g n ct2 := by
  have hh := h
  obtain ⟨S', h1, h2, h3⟩ := h
  have h4 : RamAt w b n ct S := h0.below h3
  obtain ⟨m1, p1, k1, _⟩ := h4
  obtain ⟨m2, p2, k2, _⟩ := h1
  refine (ram_same k1 k2).mono ?_
  rintro e w' ⟨⟨u, rfl, hu⟩, hb⟩
  refine ⟨by rw [show u = v from by cases u <;> cases v <;> simp_all], hh.below hb⟩
theorem mayErr_base (n : Nat) (h : 4 ≤ n) : mayErr n 2147483648 1 = 0 := by
  have : ramAll n 2147483648 1 = true := by
    simp only [ramAll, isRam, Bool.or_eq_true, Bool.and_eq_true, decide_eq_true_eq]; omega
  unfold mayErr; rw [if_pos (by omega), if_pos (by omega), this]; rfl
theorem wordAt_one (ct : Nat → Nat) : wordAt ct 0 1 = ct 0 := by simp [wordAt, wordN]
theorem own2_word {wr w : World} {g n : Nat} {ct : Nat → Nat} (h : Own2 wr w g n ct) :
    Calls Try.prog 43 #[.pointer (some ⟨g, 0, none⟩), .int .u64 2147483648, .int .i64 1] w fun e w' => e = .returned (.tuple #[.int .u64 (ct 0 : Nat), .int .i64 0]) ∧ Own2 wr w' g n ct := by
  have hh := h
  obtain ⟨S, h1, h2, h3⟩ := h
  have e : wordAt ct (2147483648 - 2147483648 : Int).toNat (1 : Int).toNat = ct 0 := wordAt_one ct
  refine (ram_word_ok h1 2147483648 (by omega) (by omega) 1 (mayErr_base n h1.lo.1)).mono ?_
  rintro e' w' ⟨rfl, hb⟩
  rw [e]
  exact ⟨rfl, hh.below hb⟩
/-- byte 0 set -/
def put0 (ct : Nat → Nat) (v : Nat) : Nat → Nat := fun i => if i = 0 then v % 256 else ct i
theorem own2_put {wr w : World} {g n : Nat} {ct : Nat → Nat} (h : Own2 wr w g n ct) (x : Int) (x0 : 0 ≤ x) :
    Calls Try.prog 44 #[.pointer (some ⟨g, 0, none⟩), .int .u64 2147483648, .int .i64 1, .int .u64 x] w fun e w' => e = .returned (.int .i64 0) ∧ Own2 wr w' g n (put0 ct x.toNat) := by
  obtain ⟨v, rfl⟩ := Int.eq_ofNat_of_zero_le x0
  have hh := h
  obtain ⟨S, h1, h2, h3⟩ := h
  have e : putWord ct (2147483648 - 2147483648 : Int).toNat (1 : Int).toNat v = put0 ct v := by
    funext i
    show (if 0 ≤ i ∧ i < 0 + 1 then v / 2 ^ (8 * (i - 0)) % 256 else ct i) = if i = 0 then v % 256 else ct i
    by_cases hi : i = 0
    · subst hi; rw [if_pos ⟨by omega, by omega⟩, if_pos rfl]; simp
    · rw [if_neg (by omega), if_neg hi]
  refine (ram_put_ok h1 2147483648 (by omega) (by omega) 1 v (mayErr_base n h1.lo.1)).mono ?_
  rintro e' w' ⟨rfl, S', q1, q2, q3⟩
  rw [e] at q1
  refine ⟨rfl, S', q1, fun q hq => ?_, h3.trans (q2.below h3.size h2)⟩
  have := h3.size
  rcases q3 q hq with k | k
  · exact h2 q k
  · omega
theorem put0_ne {n : Nat} {ct : Nat → Nat} (hn : 4 ≤ n) (h : ct 0 < 256) : ¬ AllEq n (put0 ct (ct 0 + 1)) ct := fun k => by
  have := k 0 (by omega)
  simp only [put0, if_true] at this
  omega
theorem put0_back {ct : Nat → Nat} (h : ct 0 < 256) (v : Nat) : put0 (put0 ct v) (ct 0) = ct := by
  funext i
  unfold put0
  by_cases hi : i = 0
  · subst hi; rw [if_pos rfl]; omega
  · rw [if_neg hi, if_neg hi]
/-- the copy takes the memory's place -/
theorem Both.copy {w w' : World} {B b n wb g : Nat} {ct : Nat → Nat} {S : Nat → Prop} {rv : Value} {c : Nat → Int × Int} {m : Nat} (h : Both w B b n wb ct S rv c m) (hg : w.heap.size ≤ g) (h2 : Own2 w w' g n ct) : ∃ S', Both w' B g n wb ct S' rv c m := by
  obtain ⟨S', h1, h2, h3⟩ := h2
  have h4 := h.below h3
  have := h.wb_lt
  have := h.B_lt
  refine ⟨S', h1, h4.ref, h.same, by omega, fun k => by have := h2 _ k; omega, fun q hq => ?_, by omega, h.lo.2.1, fun q hq => by have := h2 q hq; omega⟩
  have k := h.sv q hq
  exact ⟨fun e => by have := h2 _ e; omega, by omega, k.2.2.1, (h4.sv q hq).2.2.2⟩
end Go.Proofs.Ytebdbbpefmgooaa
