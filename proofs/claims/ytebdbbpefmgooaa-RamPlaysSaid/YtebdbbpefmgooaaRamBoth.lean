/- Both memories of the script together, and what one call may turn. Contracts of Put, in one form for all answers. -/
import Derived.Test.YtebdbbpefmgooaaRamStep3
import Derived.StillTailTactics
import Derived.BigRegion
import Derived.Deep.RegionWith
import Derived.Deep.RegionHeld3
import Derived.Deep.QuietTactic
import Derived.BigQuiet
import Derived.Deep.DeepFit
import Derived.Deep.DeepMust
import Derived.Handy
set_option linter.unusedVariables false
set_option linter.unusedSimpArgs false
namespace Go.Proofs.Ytebdbbpefmgooaa
open Go.RowKit
set_option maxRecDepth 100000
/-- the memory at b and the reference at wb hold the same bytes; none of their blocks is another's; all lie from B on -/
structure Both (w : World) (B b n wb : Nat) (ct : Nat → Nat) (S : Nat → Prop) (rv : Value) (c : Nat → Int × Int) (m : Nat) : Prop where
  ram : RamAt w b n ct S
  ref : RefRam w B wb n rv c m
  same : SameB n (fun y => lkTo c y m) ct
  bw : b ≠ wb
  sw : ¬ S wb
  sv : ∀ g, rv.ownBlock = some g → ¬ S g ∧ g ≠ b ∧ g ≠ wb ∧ g < w.heap.size
  lo : B ≤ b ∧ B ≤ wb ∧ ∀ g, S g → B ≤ g
theorem Both.wb_lt {w : World} {B b n wb : Nat} {ct : Nat → Nat} {S : Nat → Prop} {rv : Value} {c : Nat → Int × Int} {m : Nat} (h : Both w B b n wb ct S rv c m) : wb < w.heap.size := blk_lt h.ref.at_
theorem Both.B_lt {w : World} {B b n wb : Nat} {ct : Nat → Nat} {S : Nat → Prop} {rv : Value} {c : Nat → Int × Int} {m : Nat} (h : Both w B b n wb ct S rv c m) : B ≤ w.heap.size := by have := h.wb_lt; have := h.lo.2.1; omega
theorem Both.below {w w' : World} {B b n wb : Nat} {ct : Nat → Nat} {S : Nat → Prop} {rv : Value} {c : Nat → Int × Int} {m : Nat} (h : Both w B b n wb ct S rv c m) (hb : Below w.heap.size w w') : Both w' B b n wb ct S rv c m :=
  ⟨h.ram.below hb, h.ref.below hb, h.same, h.bw, h.sw, fun g hg => ⟨(h.sv g hg).1, (h.sv g hg).2.1, (h.sv g hg).2.2.1, Nat.lt_of_lt_of_le (h.sv g hg).2.2.2 hb.size⟩, h.lo⟩
/-- a reference that none of its blocks was turned of -/
theorem RefRam.turned {w w' : World} {B wb n : Nat} {v : Value} {c : Nat → Int × Int} {m : Nat} (h : RefRam w B wb n v c m) {T : Nat → Prop} (ht : Turned T w w') (h1 : ¬ T wb) (h2 : ∀ g, v.ownBlock = some g → ¬ T g) : RefRam w' B wb n v c m := by
  obtain ⟨a1, a2, a3, a4, a5⟩ := h
  refine ⟨(ht.block _ (blk_lt a1) h1).trans a1, ?_, a3, a4, a5⟩
  obtain ⟨k1, k2⟩ := a2
  refine ⟨k1, k2.imp id ?_⟩
  rintro ⟨g, cap, cur, rfl, hg, hh, r⟩
  exact ⟨g, cap, cur, rfl, hg, (ht.block _ (blk_lt hh) (h2 g rfl)).trans hh, r⟩
/-- what a call leaves: both alike again, the reference longer by at most k; nothing below B is turned -/
def Theirs (wb : Nat) (S : Nat → Prop) (rv : Value) (g : Nat) : Prop := S g ∨ g = wb ∨ rv.ownBlock = some g
theorem Both.theirs_lo {w : World} {B b n wb : Nat} {ct : Nat → Nat} {S : Nat → Prop} {rv : Value} {c : Nat → Int × Int} {m : Nat} (h : Both w B b n wb ct S rv c m) : ∀ g, Theirs wb S rv g → B ≤ g := by
  rintro g (hg | rfl | e)
  · exact h.lo.2.2 g hg
  · exact h.lo.2.1
  · obtain ⟨_, k⟩ := h.ref.own
    rcases k with ⟨rfl, _⟩ | ⟨g', cap, cur, rfl, hg, _⟩
    · cases e
    · cases e; exact hg
theorem Both.theirs_lt {w : World} {B b n wb : Nat} {ct : Nat → Nat} {S : Nat → Prop} {rv : Value} {c : Nat → Int × Int} {m : Nat} (h : Both w B b n wb ct S rv c m) : ∀ g, Theirs wb S rv g → g < w.heap.size := by
  rintro g (hg | rfl | e)
  · exact h.ram.lt hg
  · exact h.wb_lt
  · exact (h.sv g e).2.2.2
def BothTo (w w' : World) (B b n wb : Nat) (S : Nat → Prop) (rv : Value) (most : Nat) : Prop := ∃ ct S' rv' c m, Both w' B b n wb ct S' rv' c m ∧ m ≤ most ∧ Turned (Theirs wb S rv) w w'
theorem Both.to {w w' : World} {B b n wb : Nat} {ct : Nat → Nat} {S : Nat → Prop} {rv : Value} {c : Nat → Int × Int} {m : Nat} (h : Both w B b n wb ct S rv c m) (hb : Below w.heap.size w w') : BothTo w w' B b n wb S rv m :=
  ⟨ct, S, rv, c, m, h.below hb, Nat.le_refl _, Turned.of_below hb _⟩
/-- the same, and which blocks are its own; X: blocks beside theirs that were turned too -/
def BothIn (w w' : World) (B b n wb : Nat) (S : Nat → Prop) (rv : Value) (most : Nat) (X : Nat → Prop) : Prop := ∃ ct' S' rv' c m, Both w' B b n wb ct' S' rv' c m ∧ m ≤ most ∧ Turned (fun g => Theirs wb S rv g ∨ X g) w w' ∧ (∀ g, S' g → S g ∨ w.heap.size ≤ g) ∧ (∀ g, rv'.ownBlock = some g → rv.ownBlock = some g ∨ w.heap.size ≤ g)
/-- seen from further back -/
theorem BothIn.to {w0 w w' : World} {B b n wb : Nat} {S : Nat → Prop} {rv : Value} {most : Nat} {X : Nat → Prop} (h : BothIn w w' B b n wb S rv most X) (hb : Below w0.heap.size w0 w) (hX : ∀ g, X g → w0.heap.size ≤ g) : BothTo w0 w' B b n wb S rv most := by
  obtain ⟨ct, S', rv', c, m, h1, h2, h3, _⟩ := h
  exact ⟨ct, S', rv', c, m, h1, h2, (Turned.of_below hb (Theirs wb S rv)).trans h3 (fun g hg => hg.imp id (hX g))⟩
/-- a block that is none of theirs is turned -/
theorem BothIn.other {w w2 w3 : World} {B b n wb : Nat} {S : Nat → Prop} {rv : Value} {most : Nat} (h : BothIn w w2 B b n wb S rv most (fun _ => False)) {g : Nat} (ht : Turned (· = g) w2 w3) (hg : g < w.heap.size) (h1 : ¬ S g) (h2 : rv.ownBlock ≠ some g) (h3 : g ≠ b) (h4 : g ≠ wb) : BothIn w w3 B b n wb S rv most (· = g) := by
  obtain ⟨ct, S', rv', c, m, q1, q2, q3, q4, q5⟩ := h
  have k1 : ¬ S' g := fun e => by rcases q4 g e with k | k; exact h1 k; omega
  have k2 : rv'.ownBlock ≠ some g := fun e => by rcases q5 g e with k | k; exact h2 k; omega
  refine ⟨ct, S', rv', c, m, ⟨q1.ram.turned ht (fun e => h3 e.symm) (fun x hx e => k1 (e ▸ hx)), q1.ref.turned ht (fun e => h4 e.symm) (fun x hx e => k2 (e ▸ hx)), q1.same, q1.bw, q1.sw, fun x hx => ⟨(q1.sv x hx).1, (q1.sv x hx).2.1, (q1.sv x hx).2.2.1, Nat.lt_of_lt_of_le (q1.sv x hx).2.2.2 ht.size⟩, q1.lo⟩, q2, ?_, q4, q5⟩
  exact (q3.mono (fun g hg => .inl (hg.resolve_right id))).trans ht (fun x hx => .inl (.inr hx))
theorem BothIn.then_below {w w2 w3 : World} {B b n wb : Nat} {S : Nat → Prop} {rv : Value} {most : Nat} {X : Nat → Prop} (h : BothIn w w2 B b n wb S rv most X) (hb : Below w2.heap.size w2 w3) : BothIn w w3 B b n wb S rv most X := by
  obtain ⟨ct, S', rv', c, m, q1, q2, q3, q4, q5⟩ := h
  exact ⟨ct, S', rv', c, m, q1.below hb, q2, q3.trans (Turned.of_below hb (fun _ => False)) (fun _ e => e.elim), q4, q5⟩
/-- first the memory was turned (w to w2), then the reference (w2 to w3): both hold the same again -/
theorem Both.turnIn {w w2 w3 : World} {B b n wb : Nat} {ct ct2 : Nat → Nat} {S : Nat → Prop} {rv : Value} {c : Nat → Int × Int} {m most : Nat} {f : Int → Int} (h : Both w B b n wb ct S rv c m) (h2 : RamTo w w2 b n ct2 S) (h3 : RefTo w2 w3 B wb n rv f most) (hs : SameB n f ct2) : BothIn w w3 B b n wb S rv most (fun _ => False) := by
  obtain ⟨S2, r1, r2, r3⟩ := h2
  obtain ⟨v', c', m', q1, q2, q3, q4, q5⟩ := h3
  have hwb := h.wb_lt
  have hB := h.B_lt
  have hS : ∀ g, S2 g → ¬ (g = wb ∨ rv.ownBlock = some g) := by
    rintro g hg (rfl | e)
    · rcases r3 _ hg with k | k
      · exact h.sw k
      · omega
    · rcases r3 _ hg with k | k
      · exact (h.sv g e).1 k
      · have := (h.sv g e).2.2.2; omega
  refine ⟨ct2, S2, v', c', m', ⟨r1.turned q4 ?_ hS, q1, ?_, h.bw, fun k => (hS _ k) (.inl rfl), ?_, h.lo.1, h.lo.2.1, ?_⟩, q3, ?_, r3, fun g hg => (q5 g hg).imp id (fun k => Nat.le_trans r2.size k)⟩
  · rintro (e | e)
    · exact h.bw e
    · exact (h.sv b e).2.1 rfl
  · rw [show (fun y => lkTo c' y m') = f from funext q2]; exact hs
  · intro g hg
    have hlt : g < w3.heap.size := by
      obtain ⟨_, k⟩ := q1.own
      rcases k with ⟨rfl, _⟩ | ⟨g', cap, cur, rfl, _, hh, _⟩
      · cases hg
      · cases hg; exact blk_lt hh
    rcases q5 g hg with k | k
    · obtain ⟨k1, k2, k3, k4⟩ := h.sv g k
      refine ⟨fun e => hS g e (.inr k), k2, k3, hlt⟩
    · have := r2.size
      refine ⟨fun e => ?_, ?_, ?_, hlt⟩
      · have := r1.lt e; omega
      · have := h.ram.self.2; omega
      · omega
  · intro g hg
    rcases r3 g hg with k | k
    · exact h.lo.2.2 g k
    · omega
  · exact (r2.mono (fun g hg => .inl (.inl hg))).trans q4 (by
      rintro g (rfl | e)
      · exact .inl (.inl (.inr (.inl rfl)))
      · exact .inl (.inl (.inr (.inr e))))
/-- what Put leaves -/
def putC (n : Nat) (ct : Nat → Nat) (x k : Int) (v : Nat) : Nat → Nat := if mayErr n x k = 0 then putWord ct (x - 2147483648).toNat k.toNat v else ct
def putF (n : Nat) (f : Int → Int) (x k : Int) (v : Nat) : Int → Int := if mayErr n x k = 0 then putR f x (fun i => (numBytes v k.toNat).getD i 0) (fun _ => true) k.toNat else f
theorem ram_put_any {w : World} {b n : Nat} {ct : Nat → Nat} {S : Nat → Prop} (h : RamAt w b n ct S) (x : Int) (x0 : 0 ≤ x) (x1 : x < 18446744073709551616) (k : Int) (v : Nat) :
    Calls Try.prog 44 #[.pointer (some ⟨b, 0, none⟩), .int .u64 x, .int .i64 k, .int .u64 v] w fun e w' => e = .returned (.int .i64 (mayErr n x k)) ∧ RamTo w w' b n (putC n ct x k v) S := by
  unfold putC
  by_cases hm : mayErr n x k = 0
  · rw [if_pos hm, hm]; exact ram_put_ok h x x0 x1 k v hm
  · rw [if_neg hm]; exact (ram_put_err h x x0 x1 k v hm).mono fun _ _ q => ⟨q.1, h.to.below q.2⟩
theorem RefRam.to {w : World} {B wb n : Nat} {v : Value} {c : Nat → Int × Int} {m : Nat} (h : RefRam w B wb n v c m) (k : Nat) : RefTo w w B wb n v (fun y => lkTo c y m) (m + k) :=
  ⟨v, c, m, h, fun _ => rfl, Nat.le_add_right _ _, Turned.refl _ _, fun _ e => .inl e⟩
theorem RefTo.le {w w' : World} {B wb n : Nat} {v : Value} {f : Int → Int} {k k' : Nat} (h : RefTo w w' B wb n v f k) (hk : k ≤ k') : RefTo w w' B wb n v f k' := by
  obtain ⟨v', c', m', h1, h2, h3, h4⟩ := h
  exact ⟨v', c', m', h1, h2, Nat.le_trans h3 hk, h4⟩
theorem ref_put_any {w : World} {B wb n : Nat} {v : Value} {c : Nat → Int × Int} {m : Nat} (h : RefRam w B wb n v c m) (n4 : (4 : Int) ≤ n) (n256 : (n : Int) ≤ 256) (x : Int) (x0 : 0 ≤ x) (x1 : x < 18446744073709551616) (k : Int) (u : Nat) (hu : u < 2 ^ 64) (hmx : (m : Int) + 8 ≤ 100000000) (hB : B ≤ w.heap.size) (hvw : v.ownBlock ≠ some wb) :
    Calls Try.prog 70 #[.pointer (some ⟨wb, 0, none⟩), .int .u64 x, .int .i64 k, .int .u64 u] w fun e w' => e = .returned (.int .i64 (mayErr n x k)) ∧ RefTo w w' B wb n v (putF n (fun y => lkTo c y m) x k u) (m + 8) := by
  unfold putF
  by_cases hm : mayErr n x k = 0
  · obtain ⟨hk, _, ha⟩ := mayErr_0 hm
    rw [if_pos hm, hm]
    exact (refm_put_ok h n4 n256 x x0 x1 k u hu hm hmx hB hvw).mono fun _ _ q => ⟨q.1, q.2.le (by omega)⟩
  · rw [if_neg hm]; exact (refm_put_err h n4 n256 x x0 x1 k u hm).mono fun _ _ q => ⟨q.1, by rw [← q.2]; exact h.to 8⟩
theorem SameB.putC {n : Nat} {f : Int → Int} {ct : Nat → Nat} (h : SameB n f ct) (n256 : (n : Int) ≤ 256) (x k : Int) (v : Nat) : SameB n (putF n f x k v) (putC n ct x k v) := by
  unfold putF Go.Proofs.Ytebdbbpefmgooaa.putC
  by_cases hm : mayErr n x k = 0
  · obtain ⟨hk, _, ha⟩ := mayErr_0 hm
    rw [if_pos hm, if_pos hm, ← putTo_word]
    have := ramAll_in ha n256 (by omega)
    refine h.put x this.1 _ _ _ k.toNat fun i hi => ?_
    rw [numBytes_getD _ _ _ hi]
    omega
  · rw [if_neg hm, if_neg hm]; exact h
theorem isRow_turned0 {w w' : World} {S : Nat → Prop} {a : Option Addr} {n : Nat} {V : Nat → Value} (h : IsRow w a n V) (ht : Turned S w w') (ha : 0 < n → Apart S a) : IsRow w' a n V := fun hn => isRow_turned h ht (ha hn) hn
/-! ### Some and Write, in one form for all answers -/
theorem putTo_congr {ct : Nat → Nat} {off : Nat} {l l2 : Nat → Nat} {st st2 : Nat → Bool} : ∀ k, (∀ i, i < k → l i = l2 i ∧ st i = st2 i) → putTo ct off l st k = putTo ct off l2 st2 k
  | 0, _ => rfl
  | k + 1, h => by
    unfold putTo
    rw [putTo_congr k (fun i hi => h i (by omega)), (h k (by omega)).1, (h k (by omega)).2]
theorem putR_congr {f : Int → Int} {x : Int} {l l2 : Nat → Int} {st st2 : Nat → Bool} : ∀ k, (∀ i, i < k → l i = l2 i ∧ st i = st2 i) → putR f x l st k = putR f x l2 st2 k
  | 0, _ => rfl
  | k + 1, h => by
    unfold putR
    rw [putR_congr k (fun i hi => h i (by omega)), (h k (by omega)).1, (h k (by omega)).2]
def someE (n : Nat) (x : Int) (k : Nat) : Int := if ramAll n x k then 0 else 6
def someC (n : Nat) (ct : Nat → Nat) (x : Int) (V : Nat → Int) (st : Nat → Bool) (k : Nat) : Nat → Nat := if ramAll n x k then putTo ct (x - 2147483648).toNat (fun i => (V i).toNat) st k else ct
def someF (n : Nat) (f : Int → Int) (x : Int) (V : Nat → Int) (st : Nat → Bool) (k : Nat) : Int → Int := if ramAll n x k then putR f x V st k else f
theorem SameB.someC {n k : Nat} {f : Int → Int} {ct : Nat → Nat} (h : SameB n f ct) (n256 : (n : Int) ≤ 256) (x : Int) (V : Nat → Int) (hV : ∀ i, i < k → 0 ≤ V i) (st : Nat → Bool) : SameB n (someF n f x V st k) (someC n ct x V st k) := by
  unfold someF Go.Proofs.Ytebdbbpefmgooaa.someC
  cases ha : ramAll n x k with
  | false => exact h
  | true =>
    rw [if_pos rfl, if_pos rfl]
    by_cases hk : k = 0
    · subst hk; exact h
    · have := ramAll_in ha n256 (by omega)
      exact h.put x this.1 _ _ _ k fun i hi => by have := hV i hi; omega
theorem ram_write_any {w : World} {b n : Nat} {ct : Nat → Nat} {S : Nat → Prop} (h : RamAt w b n ct S) (x : Int) (x0 : 0 ≤ x) (x1 : x < 18446744073709551616) (a : Option Addr) (k c : Nat) (hk : (k : Int) ≤ 200) (V : Nat → Int) (hl : IsB w a k (listOf V k)) (al : Apart S a) :
    Calls Try.prog 42 #[.pointer (some ⟨b, 0, none⟩), .int .u64 x, .slice a k c] w fun e w' => e = .returned (.int .i64 (someE n x k)) ∧ RamTo w w' b n (someC n ct x V (fun _ => true) k) S := by
  unfold someE someC
  cases ha : ramAll n x k with
  | true =>
    refine (ram_write_ok h x x0 x1 a k c ha _ hl al).mono fun _ _ q => ⟨q.1, ?_⟩
    have e := putTo_congr (ct := ct) (off := (x - 2147483648).toNat) (l := fun i => ((listOf V k).getD i 0).toNat) (l2 := fun i => (V i).toNat) (st := fun _ => true) (st2 := fun _ => true) k (fun i hi => ⟨by rw [listOf_getD _ _ _ hi], rfl⟩)
    rw [if_pos rfl, ← e]; exact q.2
  | false => exact (ram_write_bus h x x0 x1 a k c (by omega) ha).mono fun _ _ q => ⟨q.1, h.to.below q.2⟩
theorem ram_some_any {w : World} {b n : Nat} {ct : Nat → Nat} {S : Nat → Prop} (h : RamAt w b n ct S) (x : Int) (x0 : 0 ≤ x) (x1 : x < 18446744073709551616) (a a2 : Option Addr) (k c m2 c2 : Nat) (hk : (k : Int) ≤ 200) (V : Nat → Int) (hl : IsB w a k (listOf V k)) (al : Apart S a)
    (z : Nat → Bool) (hz : IsRow w a2 m2 (fun i => .bool (z i))) (az : Apart S a2) (hm2 : (m2 : Int) ≤ 9223372036854775807) :
    Calls Try.prog 46 #[.pointer (some ⟨b, 0, none⟩), .int .u64 x, .slice a k c, .slice a2 m2 c2] w fun e w' => e = .returned (.int .i64 (someE n x k)) ∧ RamTo w w' b n (someC n ct x V (stAt m2 z) k) S := by
  unfold someE someC
  cases ha : ramAll n x k with
  | true =>
    refine (ram_some_ok h x x0 x1 a a2 k c m2 c2 ha _ hl al z hz az hm2).mono fun _ _ q => ⟨q.1, ?_⟩
    have e := putTo_congr (ct := ct) (off := (x - 2147483648).toNat) (l := fun i => ((listOf V k).getD i 0).toNat) (l2 := fun i => (V i).toNat) (st := stAt m2 z) (st2 := stAt m2 z) k (fun i hi => ⟨by rw [listOf_getD _ _ _ hi], rfl⟩)
    rw [if_pos rfl, ← e]; exact q.2
  | false => exact (ram_some_bus h x x0 x1 a a2 k c m2 c2 (by omega) ha).mono fun _ _ q => ⟨q.1, h.to.below q.2⟩
theorem ref_some_all {w : World} {B wb n : Nat} {v : Value} {c : Nat → Int × Int} {m : Nat} (h : RefRam w B wb n v c m) (n4 : (4 : Int) ≤ n) (n256 : (n : Int) ≤ 256) (x : Int) (x0 : 0 ≤ x) (x1 : x < 18446744073709551616) (a : Option Addr) (k cc : Nat) (hk : (k : Int) ≤ 200)
    (V : Nat → Int) (hl : IsRow w a k (fun i => .int .u8 (V i))) (hV : ∀ i, 0 ≤ V i ∧ V i ≤ 255) (al : 0 < k → Apart (fun g => g = wb ∨ v.ownBlock = some g) a) (hmx : (m : Int) + 200 ≤ 100000000) (hB : B ≤ w.heap.size) (hvw : v.ownBlock ≠ some wb) :
    Calls Try.prog 68 #[.pointer (some ⟨wb, 0, none⟩), .int .u64 x, .slice a k cc, .slice none 0 0, .bool true] w fun e w' => e = .returned (.int .i64 (someE n x k)) ∧ RefTo w w' B wb n v (someF n (fun y => lkTo c y m) x V (fun _ => true) k) (m + 200) := by
  unfold someE someF
  cases ha : ramAll n x k with
  | true => exact (refm_some_all h n4 n256 x x0 x1 a none k cc 0 0 hk V hl hV al (by omega) ha hB hvw).mono fun _ _ q => ⟨q.1, q.2.le (by omega)⟩
  | false => exact (refm_some_bus h n4 n256 x x0 x1 a none k cc 0 0 true (by omega) ha).mono fun _ _ q => ⟨q.1, by rw [← q.2]; exact h.to 200⟩
theorem ref_some_st {w : World} {B wb n : Nat} {v : Value} {c : Nat → Int × Int} {m : Nat} (h : RefRam w B wb n v c m) (n4 : (4 : Int) ≤ n) (n256 : (n : Int) ≤ 256) (x : Int) (x0 : 0 ≤ x) (x1 : x < 18446744073709551616) (a a2 : Option Addr) (k cc m2 c2 : Nat) (hk : (k : Int) ≤ 200)
    (V : Nat → Int) (hl : IsRow w a k (fun i => .int .u8 (V i))) (hV : ∀ i, 0 ≤ V i ∧ V i ≤ 255) (al : 0 < k → Apart (fun g => g = wb ∨ v.ownBlock = some g) a) (hmx : (m : Int) + 200 ≤ 100000000) (z : Nat → Bool) (hz : IsRow w a2 m2 (fun i => .bool (z i))) (az : 0 < m2 → Apart (fun g => g = wb ∨ v.ownBlock = some g) a2) (hm2 : (m2 : Int) ≤ 9223372036854775807) (hB : B ≤ w.heap.size) (hvw : v.ownBlock ≠ some wb) :
    Calls Try.prog 68 #[.pointer (some ⟨wb, 0, none⟩), .int .u64 x, .slice a k cc, .slice a2 m2 c2, .bool false] w fun e w' => e = .returned (.int .i64 (someE n x k)) ∧ RefTo w w' B wb n v (someF n (fun y => lkTo c y m) x V (stAt m2 z) k) (m + 200) := by
  unfold someE someF
  cases ha : ramAll n x k with
  | true => exact (refm_some_st h n4 n256 x x0 x1 a a2 k cc m2 c2 hk V hl hV al (by omega) ha z hz az hm2 hB hvw).mono fun _ _ q => ⟨q.1, q.2.le (by omega)⟩
  | false => exact (refm_some_bus h n4 n256 x x0 x1 a a2 k cc m2 c2 false (by omega) ha).mono fun _ _ q => ⟨q.1, by rw [← q.2]; exact h.to 200⟩
end Go.Proofs.Ytebdbbpefmgooaa
