/- A program run on terms: expressions, values with variables in them, the relation to a world. No condition. A program run on terms: values with variables in them, the heap that is known, the relation to a world. No condition. A program run on terms: the operations of memory and of structs. No condition. A program run on terms: what expressions are between; expressions made simpler. No condition. A program run on terms: operators, parts, addresses, slices. No condition. A program run on terms: structs held against each other, fields, indexes, slices of slices. No condition. A program run on terms: conversions, fields, indexes, slices, new rows. No condition. A program run on terms: structs and rows built, made, appended, copied. No condition. A program run on terms: make, append, copy, len, cap, min, max. No condition. -/
import Derived.OrdersHeld
import Derived.LoopN
import Derived.Laws.AppendOwn
import Derived.Laws.CopyRow
import Derived.Laws.Rows
import Derived.Laws.Tables
import Derived.KernelRfl
import Derived.Laws.StructEq
import Derived.Laws.Slices
import Derived.Laws.MakeOwn
section
set_option linter.unusedVariables false
set_option linter.unusedSimpArgs false
namespace Go.Proofs.YtkhammleijbpeaaGreat.Sx
open Go
/-- an expression: an int or a bool -/
inductive E where
  | lit (n : Int)
  | var (lo hi : Int) (i : Nat)
  | bin (op : BinOp) (k : IntKind) (a b : E)
  | pl (op : BinOp) (a b : E)
  | cast (k : IntKind) (a : E)
  | ite (c a b : E)
  | tt (b : Bool)
  | bvar (i : Nat)
  | cmp (op : BinOp) (a b : E)
  | no (a : E)
  deriving DecidableEq, Repr, Inhabited
structure Env where
  i : Nat → Int
  b : Nat → Bool
  x : Nat → Value
  /-- a memory that is not looked into -/
  g : Nat → Nat
  f : Nat → (Nat → Nat) → List Int → List Int × (Nat → Nat)
def bitsD (op : BinOp) (k : IntKind) (x y : Int) : Int :=
  match op with
  | .and => k.wrap (BitVec.ofInt k.bits x &&& BitVec.ofInt k.bits y).toNat
  | .or => k.wrap (BitVec.ofInt k.bits x ||| BitVec.ofInt k.bits y).toNat
  | .xor => k.wrap (BitVec.ofInt k.bits x ^^^ BitVec.ofInt k.bits y).toNat
  | _ => k.wrap (BitVec.ofInt k.bits x &&& ~~~BitVec.ofInt k.bits y).toNat
def binD (op : BinOp) (k : IntKind) (x y : Int) : Int :=
  match op with
  | .add => k.wrap (x + y)
  | .sub => k.wrap (x - y)
  | .mul => k.wrap (x * y)
  | .quo => k.wrap (x.tdiv y)
  | .rem => x.tmod y
  | .and => bitsD .and k x y
  | .or => bitsD .or k x y
  | .xor => bitsD .xor k x y
  | .andNot => bitsD .andNot k x y
  | .shl => k.wrap (x * 2 ^ (min y.toNat k.bits))
  | .shr => x.fdiv (2 ^ (min y.toNat k.bits))
  | _ => 0
def plD (op : BinOp) (x y : Int) : Int :=
  match op with
  | .add => x + y
  | .sub => x - y
  | .mul => x * y
  | .quo => x / y
  | .rem => x % y
  | _ => 0
def cmpD (op : BinOp) (x y : Int) : Bool :=
  match op with
  | .eql => x == y
  | .neq => x != y
  | .lss => decide (x < y)
  | .leq => decide (x ≤ y)
  | .gtr => decide (x > y)
  | .geq => decide (x ≥ y)
  | _ => false
def E.ev (V : Env) : E → Int × Bool
  | .lit n => (n, false)
  | .var _ _ i => (V.i i, false)
  | .bin op k a b => (binD op k (a.ev V).1 (b.ev V).1, false)
  | .pl op a b => (plD op (a.ev V).1 (b.ev V).1, false)
  | .cast k a => (k.wrap (a.ev V).1, false)
  | .ite c a b => if (c.ev V).2 then a.ev V else b.ev V
  | .tt b => (0, b)
  | .bvar i => (0, V.b i)
  | .cmp op a b => (0, cmpD op (a.ev V).1 (b.ev V).1)
  | .no a => (0, !(a.ev V).2)
def E.den (V : Env) (e : E) : Int := (e.ev V).1
def E.tr (V : Env) (e : E) : Bool := (e.ev V).2
section
variable (V : Env)
theorem den_lit (n : Int) : (E.lit n).den V = n := rfl
theorem den_var (lo hi : Int) (i : Nat) : (E.var lo hi i).den V = V.i i := rfl
theorem den_bin (op k a b) : (E.bin op k a b).den V = binD op k (a.den V) (b.den V) := rfl
theorem den_pl (op a b) : (E.pl op a b).den V = plD op (a.den V) (b.den V) := rfl
theorem den_cast (k a) : (E.cast k a).den V = k.wrap (a.den V) := rfl
theorem den_ite (c a b) : (E.ite c a b).den V = if c.tr V then a.den V else b.den V := by unfold E.den E.tr; rw [E.ev]; split <;> rfl
theorem tr_ite (c a b) : (E.ite c a b).tr V = if c.tr V then a.tr V else b.tr V := by unfold E.tr; rw [E.ev]; split <;> rfl
theorem tr_tt (b : Bool) : (E.tt b).tr V = b := rfl
theorem tr_bvar (i : Nat) : (E.bvar i).tr V = V.b i := rfl
theorem tr_cmp (op a b) : (E.cmp op a b).tr V = cmpD op (a.den V) (b.den V) := rfl
theorem tr_no (a) : (E.no a).tr V = !(a.tr V) := rfl
end
/-- something in memory that is not looked into: what it is, which blocks it has -/
structure Ext where
  rel : (Nat → Nat) → World → (Nat → Prop) → Prop
  keep : ∀ g w w' S, rel g w S → w.heap.size ≤ w'.heap.size → (∀ k, S k → w'.heap[k]? = w.heap[k]?) → rel g w' S
  lt : ∀ g w S, rel g w S → ∀ k, S k → k < w.heap.size
  /-- values that are what they are -/
  px : Nat → Option Value
def noExt : Ext := ⟨fun _ _ S => ∀ k, ¬ S k, fun _ _ _ _ h _ _ => h, fun _ _ _ h k hk => absurd hk (h k), fun _ => none⟩
/-- where the variables stand: what is known -/
structure Ctx where
  V : Env
  vd : Nat → Prop
  bl : Nat → Option (Nat × Nat)
  X : Ext
  S : Nat → Prop
  /-- the blocks of the world that may be written -/
  O : Nat → Prop
def E.sc (V : Env) (d : Nat → Prop) : E → Prop
  | .lit _ => True
  | .var lo hi i => d i ∧ lo ≤ V.i i ∧ V.i i ≤ hi
  | .bin _ _ a b => a.sc V d ∧ b.sc V d
  | .pl _ a b => a.sc V d ∧ b.sc V d
  | .cast _ a => a.sc V d
  | .ite c a b => c.sc V d ∧ a.sc V d ∧ b.sc V d
  | .tt _ => True
  | .bvar i => d i
  | .cmp _ a b => a.sc V d ∧ b.sc V d
  | .no a => a.sc V d
structure Ctx.le (C C' : Ctx) : Prop where
  v : ∀ i, C.vd i → C'.vd i ∧ C'.V.i i = C.V.i i ∧ C'.V.b i = C.V.b i ∧ C'.V.x i = C.V.x i
  f : C'.V.f = C.V.f
  X : C'.X = C.X
  bl : ∀ b x, C.bl b = some x → C'.bl b = some x
theorem Ctx.le.refl (C : Ctx) : C.le C := ⟨fun _ h => ⟨h, rfl, rfl, rfl⟩, rfl, rfl, fun _ _ h => h⟩
theorem Ctx.le.trans {A B C : Ctx} (h : A.le B) (k : B.le C) : A.le C :=
  ⟨fun i hi => by
    obtain ⟨h1, h2, h3, h4⟩ := h.v i hi
    obtain ⟨k1, k2, k3, k4⟩ := k.v i h1
    exact ⟨k1, k2.trans h2, k3.trans h3, k4.trans h4⟩, k.f.trans h.f, k.X.trans h.X, fun b x hb => k.bl b x (h.bl b x hb)⟩
theorem E.sc_le {C C' : Ctx} (h : C.le C') : ∀ e : E, e.sc C.V C.vd → e.sc C'.V C'.vd ∧ e.ev C'.V = e.ev C.V
  | .lit _, _ => ⟨trivial, rfl⟩
  | .var lo hi i, hs => by
    obtain ⟨h1, h2, h3⟩ := hs
    obtain ⟨k1, k2, k3, k4⟩ := h.v i h1
    exact ⟨⟨k1, by rw [k2]; exact h2, by rw [k2]; exact h3⟩, by simp only [E.ev, k2]⟩
  | .bin op k a b, hs => by
    obtain ⟨a1, a2⟩ := E.sc_le h a hs.1
    obtain ⟨b1, b2⟩ := E.sc_le h b hs.2
    exact ⟨⟨a1, b1⟩, by simp only [E.ev, a2, b2]⟩
  | .pl op a b, hs => by
    obtain ⟨a1, a2⟩ := E.sc_le h a hs.1
    obtain ⟨b1, b2⟩ := E.sc_le h b hs.2
    exact ⟨⟨a1, b1⟩, by simp only [E.ev, a2, b2]⟩
  | .cast k a, hs => by
    obtain ⟨a1, a2⟩ := E.sc_le h a hs
    exact ⟨a1, by simp only [E.ev, a2]⟩
  | .ite c a b, hs => by
    obtain ⟨c1, c2⟩ := E.sc_le h c hs.1
    obtain ⟨a1, a2⟩ := E.sc_le h a hs.2.1
    obtain ⟨b1, b2⟩ := E.sc_le h b hs.2.2
    exact ⟨⟨c1, a1, b1⟩, by simp only [E.ev, a2, b2, c2]⟩
  | .tt _, _ => ⟨trivial, rfl⟩
  | .bvar i, hs => by
    obtain ⟨k1, k2, k3, k4⟩ := h.v i hs
    exact ⟨k1, by simp only [E.ev, k3]⟩
  | .cmp op a b, hs => by
    obtain ⟨a1, a2⟩ := E.sc_le h a hs.1
    obtain ⟨b1, b2⟩ := E.sc_le h b hs.2
    exact ⟨⟨a1, b1⟩, by simp only [E.ev, a2, b2]⟩
  | .no a, hs => by
    obtain ⟨a1, a2⟩ := E.sc_le h a hs
    exact ⟨a1, by simp only [E.ev, a2]⟩
/-! ### smart constructors -/
def kLo : IntKind → Int
  | .i8 => -128 | .i16 => -32768 | .i32 => -2147483648 | .i64 => -9223372036854775808 | _ => 0
def kHi : IntKind → Int
  | .i8 => 127 | .i16 => 32767 | .i32 => 2147483647 | .i64 => 9223372036854775807
  | .u8 => 255 | .u16 => 65535 | .u32 => 4294967295 | .u64 => 18446744073709551615
theorem wrap_rng (k : IntKind) (n : Int) : kLo k ≤ k.wrap n ∧ k.wrap n ≤ kHi k := by
  cases k <;> simp [IntKind.wrap, IntKind.signed, IntKind.bits, kLo, kHi] <;> (try split) <;> omega
theorem wrap_in (k : IntKind) (n : Int) (h1 : kLo k ≤ n) (h2 : n ≤ kHi k) : k.wrap n = n := by
  cases k <;> simp [IntKind.wrap, IntKind.signed, IntKind.bits, kLo, kHi] at * <;> (try split) <;> omega
/-- what an expression is between -/
def E.rng : E → Option (Int × Int)
  | .lit n => some (n, n)
  | .var lo hi _ => some (lo, hi)
  | .bin .shr k a b =>
    match a.rng, b with
    | some (l, h), .lit n => if 0 ≤ l then some (0, h / 2 ^ (min n.toNat k.bits)) else none
    | some (l, h), _ => if 0 ≤ l then some (0, h) else none
    | _, _ => none
  | .bin .rem k a b => none
  | .bin .and k a b =>
    match k.signed, b.rng with
    | false, some (l, h) => if 0 ≤ l then some (0, min h (kHi k)) else some (0, kHi k)
    | true, some (l, h) => if 0 ≤ l ∧ h ≤ kHi k then some (0, h) else some (kLo k, kHi k)
    | _, _ => some (kLo k, kHi k)
  | .bin .add k _ _ => some (kLo k, kHi k)
  | .bin .sub k _ _ => some (kLo k, kHi k)
  | .bin .mul k _ _ => some (kLo k, kHi k)
  | .bin .quo k _ _ => some (kLo k, kHi k)
  | .bin .or k _ _ => some (kLo k, kHi k)
  | .bin .xor k _ _ => some (kLo k, kHi k)
  | .bin .andNot k _ _ => some (kLo k, kHi k)
  | .bin .shl k _ _ => some (kLo k, kHi k)
  | .pl .add a b => match a.rng, b.rng with | some (l, h), some (l', h') => some (l + l', h + h') | _, _ => none
  | .pl .sub a b => match a.rng, b.rng with | some (l, h), some (l', h') => some (l - h', h - l') | _, _ => none
  | .pl .rem a (.lit n) => if 0 < n then some (0, n - 1) else none
  | .pl .quo a (.lit n) => match a.rng with | some (l, h) => if 0 ≤ l ∧ 0 < n then some (0, h / n) else none | _ => none
  | .cast k _ => some (kLo k, kHi k)
  | .ite _ a b => match a.rng, b.rng with | some (l, h), some (l', h') => some (min l l', max h h') | _, _ => none
  | _ => none
theorem and_nat_le (w : Nat) (x y : Int) (hy : 0 ≤ y) : ((BitVec.ofInt w x &&& BitVec.ofInt w y).toNat : Int) ≤ y := by
  have h1 : (BitVec.ofInt w x &&& BitVec.ofInt w y).toNat ≤ (BitVec.ofInt w y).toNat := by
    rw [BitVec.toNat_and]; exact Nat.and_le_right
  have h2 : ((BitVec.ofInt w y).toNat : Int) ≤ y := by
    rw [BitVec.toNat_ofInt]
    have : (y % (2 ^ w : Nat)).toNat ≤ y.toNat := by
      have h0 : 0 ≤ y % ((2 ^ w : Nat) : Int) := Int.emod_nonneg _ (by have := Nat.two_pow_pos w; omega)
      have h1 : y % ((2 ^ w : Nat) : Int) ≤ y := by
        have h2 := Int.emod_add_mul_ediv y ((2 ^ w : Nat) : Int)
        have h3 : 0 ≤ y / ((2 ^ w : Nat) : Int) := Int.ediv_nonneg hy (by omega)
        have h4 : 0 ≤ ((2 ^ w : Nat) : Int) * (y / ((2 ^ w : Nat) : Int)) := Int.mul_nonneg (by omega) h3
        omega
      omega
    omega
  omega
end Go.Proofs.YtkhammleijbpeaaGreat.Sx
end
section
set_option linter.unusedVariables false
set_option linter.unusedSimpArgs false
namespace Go.Proofs.YtkhammleijbpeaaGreat.Sx
open Go
inductive All2 {α β : Type} (R : α → β → Prop) : List α → List β → Prop
  | nil : All2 R [] []
  | cons {a b as bs} : R a b → All2 R as bs → All2 R (a :: as) (b :: bs)
namespace All2
variable {α β : Type} {R : α → β → Prop}
theorem mono {R' : α → β → Prop} (h : ∀ a b, R a b → R' a b) {l : List α} {m : List β} (k : All2 R l m) : All2 R' l m := by
  induction k with
  | nil => exact .nil
  | cons a b ih => exact .cons (h _ _ a) ih
theorem length {l : List α} {m : List β} (k : All2 R l m) : l.length = m.length := by
  induction k with
  | nil => rfl
  | cons a b ih => simp [ih]
theorem get {l : List α} {m : List β} (k : All2 R l m) : ∀ (i : Nat) (a : α), l[i]? = some a → ∃ b, m[i]? = some b ∧ R a b := by
  induction k with
  | nil => intro i a h; simp at h
  | cons a b ih =>
    intro i x h
    cases i with
    | zero => simp at h; subst h; exact ⟨_, rfl, a⟩
    | succ i => simp at h; simpa using ih i x h
theorem getR {l : List α} {m : List β} (k : All2 R l m) : ∀ (i : Nat) (b : β), m[i]? = some b → ∃ a, l[i]? = some a ∧ R a b := by
  induction k with
  | nil => intro i a h; simp at h
  | cons a b ih =>
    intro i x h
    cases i with
    | zero => simp at h; subst h; exact ⟨_, rfl, a⟩
    | succ i => simp at h; simpa using ih i x h
theorem set {l : List α} {m : List β} (k : All2 R l m) : ∀ (i : Nat) {a : α} {b : β}, R a b → All2 R (l.set i a) (m.set i b) := by
  induction k with
  | nil => intro i a b h; exact .nil
  | cons a b ih =>
    intro i x y h
    cases i with
    | zero => exact .cons h b
    | succ i => exact .cons a (ih i h)
theorem append {l l' : List α} {m m' : List β} (k : All2 R l m) (k' : All2 R l' m') : All2 R (l ++ l') (m ++ m') := by
  induction k with
  | nil => exact k'
  | cons a b ih => exact .cons a ih
theorem take {l : List α} {m : List β} (k : All2 R l m) : ∀ n : Nat, All2 R (l.take n) (m.take n) := by
  induction k with
  | nil => intro n; simp; exact .nil
  | cons a b ih =>
    intro n
    cases n with
    | zero => exact .nil
    | succ n => exact .cons a (ih n)
theorem drop {l : List α} {m : List β} (k : All2 R l m) : ∀ n : Nat, All2 R (l.drop n) (m.drop n) := by
  induction k with
  | nil => intro n; simp; exact .nil
  | cons a b ih =>
    intro n
    cases n with
    | zero => exact .cons a b
    | succ n => exact ih n
theorem replicate (n : Nat) {a : α} {b : β} (h : R a b) : All2 R (List.replicate n a) (List.replicate n b) := by
  induction n with
  | zero => exact .nil
  | succ n ih => exact .cons h ih
theorem of_map {γ : Type} {l : List γ} {f : γ → α} {g : γ → β} (h : ∀ x ∈ l, R (f x) (g x)) : All2 R (l.map f) (l.map g) := by
  induction l with
  | nil => exact .nil
  | cons a l ih => exact .cons (h a (by simp)) (ih fun x hx => h x (by simp [hx]))
end All2
/-- what one cell holds -/
inductive SC where
  | int (k : IntKind) (e : E)
  | bool (e : E)
  | str (s : ByteArray)
  | ptr (b o : Nat)
  | nilp
  | slice (b o len cap : Nat) (el : Bool)
  | nils
  | map (b : Nat)
  | nilm
  | fn (f : Fn) (first caps : List (Nat × Nat))
  | mth (name : String) (t : TypeId) (b o : Nat)
  | nilFunc
  | iface (t : TypeId) (v : SC)
  | nilIface
  | ext (i : Nat)
  /-- a slice that is not looked into, but for its length -/
  | xs (i : Nat) (n : E)
  | undef
  deriving DecidableEq, Inhabited
def ptrRel (C : Ctx) (p : Nat × Nat) (v : Value) : Prop := ∃ g c, C.bl p.1 = some (g, c) ∧ v = .pointer (some ⟨g, p.2, none⟩)
def SC.rel (C : Ctx) : SC → Value → Prop
  | .int k e, v => e.sc C.V C.vd ∧ v = .int k (e.den C.V)
  | .bool e, v => e.sc C.V C.vd ∧ v = .bool (e.tr C.V)
  | .str s, v => v = .string s
  | .ptr b o, v => ∃ g c, C.bl b = some (g, c) ∧ v = .pointer (some ⟨g, o, none⟩)
  | .nilp, v => v = .pointer none
  | .slice b o len cap el, v => ∃ g c, C.bl b = some (g, c) ∧ v = .slice (some ⟨g, o, none⟩) len (if el then c - cap else cap) ∧ (el = true → len + cap ≤ c)
  | .nils, v => v = .slice none 0 0
  | .map b, v => ∃ g c, C.bl b = some (g, c) ∧ v = .map (some g)
  | .nilm, v => v = .map none
  | .fn f fs cs, v => ∃ vs ws, All2 (ptrRel C) fs vs ∧ All2 (ptrRel C) cs ws ∧ v = .func f vs.toArray ws.toArray
  | .mth name t b o, v => ∃ g c, C.bl b = some (g, c) ∧ v = .func (.method name) #[.iface t (.pointer (some ⟨g, o, none⟩))] #[]
  | .nilFunc, v => v = .nilFunc
  | .iface t c, v => ∃ u, c.rel C u ∧ v = .iface t u
  | .nilIface, v => v = .nilIface
  | .ext i, v => C.vd i ∧ v = C.V.x i ∧ v.oneCell' = true
  | .xs i n, v => C.vd i ∧ v = C.V.x i ∧ n.sc C.V C.vd ∧ ∃ a m c, v = .slice a m c ∧ (m : Int) = n.den C.V
  | .undef, v => v = Go.undef
def SC.ok : SC → Bool
  | .undef => false
  | _ => true
theorem SC.rel.one {C : Ctx} {c : SC} {v : Value} (h : c.rel C v) (hc : c.ok = true) : v.oneCell' = true := by
  cases c <;> simp only [SC.rel] at h
  case int => obtain ⟨_, rfl⟩ := h; rfl
  case bool => obtain ⟨_, rfl⟩ := h; rfl
  case str => subst h; rfl
  case ptr => obtain ⟨_, _, _, rfl⟩ := h; rfl
  case nilp => subst h; rfl
  case slice => obtain ⟨_, _, _, rfl, _⟩ := h; rfl
  case nils => subst h; rfl
  case map => obtain ⟨_, _, _, rfl⟩ := h; rfl
  case nilm => subst h; rfl
  case fn => obtain ⟨_, _, _, _, rfl⟩ := h; rfl
  case mth => obtain ⟨_, _, _, rfl⟩ := h; rfl
  case nilFunc => subst h; rfl
  case iface => obtain ⟨_, _, rfl⟩ := h; rfl
  case nilIface => subst h; rfl
  case ext => exact h.2.2
  case xs => obtain ⟨_, _, _, _, _, _, rfl, _⟩ := h; rfl
  case undef => simp [SC.ok] at hc
theorem one_cells {v : Value} (h : v.oneCell' = true) : v.cells = #[v] := by cases v <;> first | rfl | simp [Value.oneCell'] at h
theorem SC.rel.cells {C : Ctx} {c : SC} {v : Value} (h : c.rel C v) : v.cells = #[v] := by
  by_cases hc : c.ok = true
  · exact one_cells (h.one hc)
  · cases c <;> simp [SC.ok] at hc
    simp only [SC.rel] at h; subst h; rfl
theorem ptrRel.le {C C' : Ctx} (h : C.le C') {p : Nat × Nat} {v : Value} (k : ptrRel C p v) : ptrRel C' p v := by
  obtain ⟨g, c, h1, h2⟩ := k
  exact ⟨g, c, h.bl _ _ h1, h2⟩
theorem SC.rel.le {C C' : Ctx} (h : C.le C') : ∀ (c : SC) (v : Value), c.rel C v → c.rel C' v
  | .int k e, v, hr => by
    obtain ⟨h1, h2⟩ := hr
    obtain ⟨k1, k2⟩ := E.sc_le h e h1
    exact ⟨k1, by rw [h2]; unfold E.den; rw [k2]⟩
  | .bool e, v, hr => by
    obtain ⟨h1, h2⟩ := hr
    obtain ⟨k1, k2⟩ := E.sc_le h e h1
    exact ⟨k1, by rw [h2]; unfold E.tr; rw [k2]⟩
  | .str s, v, hr => hr
  | .ptr b o, v, ⟨g, c, h1, h2⟩ => ⟨g, c, h.bl _ _ h1, h2⟩
  | .nilp, v, hr => hr
  | .slice b o len cap el, v, ⟨g, c, h1, h2⟩ => ⟨g, c, h.bl _ _ h1, h2⟩
  | .nils, v, hr => hr
  | .map b, v, ⟨g, c, h1, h2⟩ => ⟨g, c, h.bl _ _ h1, h2⟩
  | .nilm, v, hr => hr
  | .fn f fs cs, v, ⟨vs, ws, h1, h2, h3⟩ => ⟨vs, ws, h1.mono fun _ _ => ptrRel.le h, h2.mono fun _ _ => ptrRel.le h, h3⟩
  | .mth name t b o, v, ⟨g, c, h1, h2⟩ => ⟨g, c, h.bl _ _ h1, h2⟩
  | .nilFunc, v, hr => hr
  | .iface t c, v, ⟨u, h1, h2⟩ => ⟨u, SC.rel.le h c u h1, h2⟩
  | .nilIface, v, hr => hr
  | .ext i, v, ⟨h1, h2, h3⟩ => by
    obtain ⟨k1, k2, k3, k4⟩ := h.v i h1
    exact ⟨k1, h2.trans k4.symm, h3⟩
  | .xs i n, v, ⟨h1, h2, h3, a, m, c, h4, h5⟩ => by
    obtain ⟨k1, k2, k3, k4⟩ := h.v i h1
    obtain ⟨e1, e2⟩ := E.sc_le h n h3
    exact ⟨k1, h2.trans k4.symm, e1, a, m, c, h4, by rw [h5]; unfold E.den; rw [e2]⟩
  | .undef, v, hr => hr
/-- a value of a variable: one cell or a struct -/
inductive PV where
  | one (c : SC)
  | agg (cs : List SC)
  deriving DecidableEq, Inhabited
def PV.rel (C : Ctx) : PV → Value → Prop
  | .one c, v => c.rel C v
  | .agg cs, v => ∃ vs, All2 (SC.rel C) cs vs ∧ v = .agg vs.toArray
def PV.cells : PV → List SC
  | .one c => [c]
  | .agg cs => cs
theorem PV.rel.cells {C : Ctx} {p : PV} {v : Value} (h : p.rel C v) : ∃ vs, All2 (SC.rel C) p.cells vs ∧ v.cells = vs.toArray := by
  cases p with
  | one c => exact ⟨[v], .cons h .nil, SC.rel.cells h⟩
  | agg cs => obtain ⟨vs, h1, rfl⟩ := h; exact ⟨vs, h1, rfl⟩
theorem PV.rel.le {C C' : Ctx} (h : C.le C') {p : PV} {v : Value} (k : p.rel C v) : p.rel C' v := by
  cases p with
  | one c => exact SC.rel.le h c v k
  | agg cs => obtain ⟨vs, h1, h2⟩ := k; exact ⟨vs, h1.mono fun _ _ => SC.rel.le h _ _, h2⟩
inductive SV where
  | pv (p : PV)
  | tup (ps : List PV)
  /-- not known -/
  | any
  deriving DecidableEq, Inhabited
def SV.rel (C : Ctx) : SV → Value → Prop
  | .pv p, v => p.rel C v
  | .tup ps, v => ∃ vs, All2 (PV.rel C) ps vs ∧ v = .tuple vs.toArray
  | .any, _ => True
theorem SV.rel.le {C C' : Ctx} (h : C.le C') {p : SV} {v : Value} (k : p.rel C v) : p.rel C' v := by
  cases p with
  | pv c => exact PV.rel.le h k
  | tup cs => obtain ⟨vs, h1, h2⟩ := k; exact ⟨vs, h1.mono fun _ _ => PV.rel.le h, h2⟩
  | any => trivial
abbrev SV.sc (c : SC) : SV := .pv (.one c)
abbrev SV.undef : SV := .pv (.one .undef)
theorem SV.rel_undef (C : Ctx) : SV.undef.rel C Go.undef := rfl
/-- a value of the text as a term -/
def ofCell : Value → Option SC
  | .bool b => some (.bool (.tt b))
  | .int k n => some (.int k (.lit n))
  | .string s => some (.str s)
  | .pointer none => some .nilp
  | .slice none 0 0 => some .nils
  | .map none => some .nilm
  | .nilFunc => some .nilFunc
  | .nilIface => some .nilIface
  | .func f a b => if a.isEmpty && b.isEmpty then some (.fn f [] []) else none
  | _ => none
def ofCells : List Value → Option (List SC)
  | [] => some []
  | v :: vs => match ofCell v, ofCells vs with
    | some c, some cs => some (c :: cs)
    | _, _ => none
def ofValue (v : Value) : Option PV :=
  match v with
  | .agg cs => (ofCells cs.toList).map .agg
  | v => (ofCell v).map .one
theorem ofCell_rel (C : Ctx) {v : Value} {c : SC} (h : ofCell v = some c) : c.rel C v := by
  unfold ofCell at h
  split at h <;> first | (cases h; done) | (cases h; rfl) | (cases h; exact ⟨trivial, rfl⟩) | skip
  split at h
  · rename_i f a b hab
    cases h
    simp at hab
    obtain ⟨rfl, rfl⟩ := hab
    exact ⟨[], [], .nil, .nil, rfl⟩
  · cases h
theorem ofCells_rel (C : Ctx) : ∀ {vs : List Value} {cs : List SC}, ofCells vs = some cs → All2 (SC.rel C) cs vs
  | [], cs, h => by cases h; exact .nil
  | v :: vs, cs, h => by
    unfold ofCells at h
    split at h
    · rename_i c cs' h1 h2
      cases h
      exact .cons (ofCell_rel C h1) (ofCells_rel C h2)
    · cases h
theorem ofValue_rel (C : Ctx) {v : Value} {p : PV} (h : ofValue v = some p) : p.rel C v := by
  unfold ofValue at h
  split at h
  · obtain ⟨cs, h1, rfl⟩ := Option.map_eq_some_iff.1 h
    exact ⟨_, ofCells_rel C h1, rfl⟩
  · obtain ⟨c, h1, rfl⟩ := Option.map_eq_some_iff.1 h
    exact ofCell_rel C h1
/-! ### values laid out: the same, but reckoned at once; by the recursors themselves: the kernel is quicker so -/
noncomputable def natK {β : Type} (n : Nat) (k : Nat → β) : β := Nat.rec (motive := fun _ => β) (k 0) (fun m _ => k (Nat.succ m)) n
theorem natK_eq {β : Type} (n : Nat) (k : Nat → β) : natK n k = k n := by cases n <;> rfl
noncomputable def intK {β : Type} (n : Int) (k : Int → β) : β := Int.rec (motive := fun _ => β) (fun m => natK m fun m => k (.ofNat m)) (fun m => natK m fun m => k (.negSucc m)) n
theorem intK_eq {β : Type} (n : Int) (k : Int → β) : intK n k = k n := by
  cases n with
  | ofNat m => exact natK_eq m fun m => k (.ofNat m)
  | negSucc m => exact natK_eq m fun m => k (.negSucc m)
noncomputable def eK {β : Type} (e : E) (k : E → β) : β :=
  E.rec (motive := fun _ => β) (fun n => intK n fun n => k (.lit n)) (fun l h i => k (.var l h i)) (fun op kk a b _ _ => k (.bin op kk a b)) (fun op a b _ _ => k (.pl op a b)) (fun kk a _ => k (.cast kk a)) (fun c a b _ _ _ => k (.ite c a b))
    (fun b => Bool.rec (motive := fun _ => β) (k (.tt false)) (k (.tt true)) b) (fun i => k (.bvar i)) (fun op a b _ _ => k (.cmp op a b)) (fun a _ => k (.no a)) e
theorem eK_eq {β : Type} (e : E) (k : E → β) : eK e k = k e := by
  cases e with
  | lit n => exact intK_eq n fun n => k (.lit n)
  | tt b => cases b <;> rfl
  | _ => rfl
noncomputable def boolK {β : Type} (b : Bool) (k : Bool → β) : β := Bool.rec (motive := fun _ => β) (k false) (k true) b
theorem boolK_eq {β : Type} (b : Bool) (k : Bool → β) : boolK b k = k b := by cases b <;> rfl
noncomputable def scK {β : Type} (c : SC) (k : SC → β) : β :=
  SC.rec (motive := fun _ => β) (fun kk e => eK e fun e => k (.int kk e)) (fun e => eK e fun e => k (.bool e)) (fun s => k (.str s)) (fun b o => natK b fun b => natK o fun o => k (.ptr b o)) (k .nilp)
    (fun b o l c el => natK b fun b => natK o fun o => natK l fun l => natK c fun c => boolK el fun el => k (.slice b o l c el)) (k .nils) (fun b => k (.map b)) (k .nilm) (fun f a b => k (.fn f a b)) (fun n t b o => k (.mth n t b o)) (k .nilFunc)
    (fun t v _ => k (.iface t v)) (k .nilIface) (fun i => k (.ext i)) (fun i n => k (.xs i n)) (k .undef) c
theorem scK_eq {β : Type} (c : SC) (k : SC → β) : scK c k = k c := by
  cases c with
  | int kk e => exact eK_eq e fun e => k (.int kk e)
  | bool e => exact eK_eq e fun e => k (.bool e)
  | ptr b o =>
    show (natK b fun b => natK o fun o => k (.ptr b o)) = _
    rw [natK_eq, natK_eq]
  | slice b o l c el =>
    show (natK b fun b => natK o fun o => natK l fun l => natK c fun c => boolK el fun el => k (.slice b o l c el)) = _
    rw [natK_eq, natK_eq, natK_eq, natK_eq, boolK_eq]
  | _ => rfl
noncomputable def scsK {β : Type} (l : List SC) (k : List SC → β) : β :=
  List.rec (motive := fun _ => (List SC → β) → β) (fun k => k []) (fun c _ ih k => scK c fun c => ih fun r => k (c :: r)) l k
theorem scsK_eq {β : Type} : ∀ (l : List SC) (k : List SC → β), scsK l k = k l
  | [], k => rfl
  | c :: r, k => by
    show (scK c fun c => scsK r fun r => k (c :: r)) = _
    rw [scK_eq, scsK_eq]
/-- the list alone, not what stands in it -/
noncomputable def spineK {β : Type} (l : List SC) (k : List SC → β) : β :=
  List.rec (motive := fun _ => (List SC → β) → β) (fun k => k []) (fun c _ ih k => ih fun r => k (c :: r)) l k
theorem spineK_eq {β : Type} : ∀ (l : List SC) (k : List SC → β), spineK l k = k l
  | [], k => rfl
  | c :: r, k => by
    show (spineK r fun r => k (c :: r)) = _
    rw [spineK_eq]
noncomputable def pvK {β : Type} (p : PV) (k : PV → β) : β := PV.rec (motive := fun _ => β) (fun c => scK c fun c => k (.one c)) (fun cs => spineK cs fun cs => k (.agg cs)) p
theorem pvK_eq {β : Type} (p : PV) (k : PV → β) : pvK p k = k p := by
  cases p with
  | one c => exact scK_eq c fun c => k (.one c)
  | agg cs => exact spineK_eq cs fun cs => k (.agg cs)
noncomputable def pvsK {β : Type} (l : List PV) (k : List PV → β) : β :=
  List.rec (motive := fun _ => (List PV → β) → β) (fun k => k []) (fun c _ ih k => pvK c fun c => ih fun r => k (c :: r)) l k
theorem pvsK_eq {β : Type} : ∀ (l : List PV) (k : List PV → β), pvsK l k = k l
  | [], k => rfl
  | c :: r, k => by
    show (pvK c fun c => pvsK r fun r => k (c :: r)) = _
    rw [pvK_eq, pvsK_eq]
noncomputable def svK {β : Type} (v : SV) (k : SV → β) : β := SV.rec (motive := fun _ => β) (fun p => pvK p fun p => k (.pv p)) (fun ps => pvsK ps fun ps => k (.tup ps)) (k .any) v
theorem svK_eq {β : Type} (v : SV) (k : SV → β) : svK v k = k v := by
  cases v with
  | pv p => exact pvK_eq p fun p => k (.pv p)
  | tup ps => exact pvsK_eq ps fun ps => k (.tup ps)
  | any => rfl
/-! ### the heap -/
structure Ent where
  key : SC
  val : PV
  born : Nat
  deriving DecidableEq, Inhabited
inductive Blk where
  | cells (row : List SC) (T : TypeId) (es : Nat) (el : Bool)
  | mp (ents : List Ent) (clock : Nat)
  | sit (s : ByteArray) (pos : Nat)
  /-- an iterator over a map; the entry that has come last, if it is known -/
  | mit (m since : Nat) (cur : Option Nat)
  deriving DecidableEq, Inhabited
def Ent.rel (C : Ctx) (e : Ent) (m : MapEntry) : Prop := e.key.rel C m.key ∧ e.val.rel C m.val ∧ m.born = e.born
def Blk.rel (C : Ctx) (c : Nat) (ob : Option Obj) : Blk → Prop
  | .cells row T es el => ∃ vs spare, All2 (SC.rel C) row vs ∧ ob = some (.cells (vs ++ spare).toArray T (0, 0)) ∧ (el = false → spare = []) ∧ (el = true → c * es = (vs ++ spare).length) ∧ row.all SC.ok = true
  | .mp ents clock => ∃ es, All2 (Ent.rel C) ents es ∧ ob = some (.map es.toArray clock)
  | .sit s pos => ob = some (.stringIter s pos)
  | .mit m since cur => ∃ g c0 seen, C.bl m = some (g, c0) ∧ ob = some (.mapIter (some g) since seen since) ∧ (cur = none → seen = #[]) ∧ ∀ b, cur = some b → ∃ s : Array Nat, seen = s.push b
theorem Ent.rel.le {C C' : Ctx} (h : C.le C') {e : Ent} {m : MapEntry} (k : e.rel C m) : e.rel C' m := ⟨SC.rel.le h _ _ k.1, PV.rel.le h k.2.1, k.2.2⟩
theorem Blk.rel.le {C C' : Ctx} (h : C.le C') {b : Blk} {c : Nat} {ob : Option Obj} (k : b.rel C c ob) : b.rel C' c ob := by
  cases b with
  | cells row T es el => obtain ⟨vs, sp, h1, h2⟩ := k; exact ⟨vs, sp, h1.mono fun _ _ => SC.rel.le h _ _, h2⟩
  | mp ents clock => obtain ⟨es, h1, h2⟩ := k; exact ⟨es, h1.mono fun _ _ => Ent.rel.le h, h2⟩
  | sit s pos => exact k
  | mit m since cur => obtain ⟨g, c0, seen, h1, h2, h3⟩ := k; exact ⟨g, c0, seen, h.bl _ _ h1, h2, h3⟩
/-- is it an iterator that is not stepped? -/
def Blk.it : Blk → Bool
  | .mit _ _ (some _) => true
  | _ => false
abbrev Hs := List (Nat × Blk)
def hget : Hs → Nat → Option Blk
  | [], _ => none
  | (i, b) :: r, n => if i = n then some b else hget r n
def hset : Hs → Nat → Blk → Hs
  | [], _, _ => []
  | (i, b) :: r, n, x => if i = n then (i, x) :: r else (i, b) :: hset r n x
/-- puts a new one, the greatest number first -/
def hput : Hs → Nat → Blk → Hs
  | [], n, x => [(n, x)]
  | (i, b) :: r, n, x => if i < n then (n, x) :: (i, b) :: r else (i, b) :: hput r n x
def hdel : Hs → Nat → Hs
  | [], _ => []
  | (i, b) :: r, n => if i = n then hdel r n else (i, b) :: hdel r n
theorem hget_set (H : Hs) (n m : Nat) (x y : Blk) (h : hget (hset H n x) m = some y) : (m = n ∧ y = x ∧ (hget H n).isSome) ∨ (m ≠ n ∧ hget H m = some y) := by
  induction H with
  | nil => simp [hset, hget] at h
  | cons p r ih =>
    obtain ⟨i, b⟩ := p
    unfold hset at h
    split at h
    · rename_i hi
      unfold hget at h
      split at h
      · rename_i hm
        left; subst hi; subst hm; cases h; exact ⟨rfl, rfl, by simp [hget]⟩
      · rename_i hm
        right
        exact ⟨fun e => hm (e ▸ hi), by unfold hget; rw [if_neg hm]; exact h⟩
    · rename_i hi
      unfold hget at h
      split at h
      · rename_i hm
        right; subst hm; cases h; exact ⟨hi, by simp [hget]⟩
      · rename_i hm
        rcases ih h with ⟨rfl, rfl, k⟩ | ⟨k1, k2⟩
        · left; exact ⟨rfl, rfl, by unfold hget; rw [if_neg hi]; exact k⟩
        · right; exact ⟨k1, by unfold hget; rw [if_neg hm]; exact k2⟩
theorem hget_put (H : Hs) (n m : Nat) (x y : Blk) (h : hget (hput H n x) m = some y) : (m = n ∧ y = x) ∨ (hget H m = some y) := by
  induction H with
  | nil =>
    simp only [hput, hget] at h
    split at h
    · rename_i e; cases h; exact .inl ⟨e.symm, rfl⟩
    · cases h
  | cons p r ih =>
    obtain ⟨i, b⟩ := p
    unfold hput at h
    split at h
    · unfold hget at h
      split at h
      · rename_i e; cases h; exact .inl ⟨e.symm, rfl⟩
      · exact .inr h
    · unfold hget at h
      split at h
      · rename_i hm
        right; subst hm; cases h; simp [hget]
      · rename_i hm
        rcases ih h with k | k
        · exact .inl k
        · right; unfold hget; rw [if_neg hm]; exact k
theorem hget_del (H : Hs) (n m : Nat) (y : Blk) (h : hget (hdel H n) m = some y) : m ≠ n ∧ hget H m = some y := by
  induction H with
  | nil => simp [hdel, hget] at h
  | cons p r ih =>
    obtain ⟨i, b⟩ := p
    unfold hdel at h
    split at h
    · rename_i hi
      obtain ⟨k1, k2⟩ := ih h
      exact ⟨k1, by unfold hget; rw [if_neg (fun e => k1 (e.symm.trans hi))]; exact k2⟩
    · rename_i hi
      unfold hget at h
      split at h
      · rename_i hm
        subst hm; cases h; exact ⟨hi, by simp [hget]⟩
      · rename_i hm
        obtain ⟨k1, k2⟩ := ih h
        exact ⟨k1, by unfold hget; rw [if_neg hm]; exact k2⟩
theorem blt_no {n m : Nat} (h : Nat.blt n m = false) : ¬ n < m := fun e => by
  have : Nat.blt n m = true := by rw [Nat.blt_eq]; exact e
  rw [h] at this
  cases this
/-- the same, reckoned at once -/
noncomputable def hsetK {β : Type} (H : Hs) (n : Nat) (x : Blk) (k : Hs → β) : β :=
  List.rec (motive := fun _ => (Hs → β) → β) (fun k => k []) (fun p r ih k => Prod.rec (motive := fun _ => β) (fun i b => Bool.rec (motive := fun _ => β) (ih fun r' => k ((i, b) :: r')) (k ((i, x) :: r)) (Nat.beq i n)) p) H k
theorem hsetK_eq {β : Type} : ∀ (H : Hs) (n : Nat) (x : Blk) (k : Hs → β), hsetK H n x k = k (hset H n x)
  | [], n, x, k => rfl
  | (i, b) :: r, n, x, k => by
    show (Bool.rec (motive := fun _ => β) (hsetK r n x fun r' => k ((i, b) :: r')) (k ((i, x) :: r)) (Nat.beq i n) : β) = _
    rw [hset]
    cases hb : Nat.beq i n with
    | true => rw [if_pos (Nat.eq_of_beq_eq_true hb)]
    | false => rw [if_neg (fun e => by rw [e] at hb; simp at hb)]; exact hsetK_eq r n x _
noncomputable def hputK {β : Type} (H : Hs) (n : Nat) (x : Blk) (k : Hs → β) : β :=
  List.rec (motive := fun _ => (Hs → β) → β) (fun k => k [(n, x)]) (fun p r ih k => Prod.rec (motive := fun _ => β) (fun i b => Bool.rec (motive := fun _ => β) (ih fun r' => k ((i, b) :: r')) (k ((n, x) :: (i, b) :: r)) (Nat.blt i n)) p) H k
theorem hputK_eq {β : Type} : ∀ (H : Hs) (n : Nat) (x : Blk) (k : Hs → β), hputK H n x k = k (hput H n x)
  | [], n, x, k => rfl
  | (i, b) :: r, n, x, k => by
    show (Bool.rec (motive := fun _ => β) (hputK r n x fun r' => k ((i, b) :: r')) (k ((n, x) :: (i, b) :: r)) (Nat.blt i n) : β) = _
    rw [hput]
    cases hb : Nat.blt i n with
    | true => rw [if_pos (by simpa [Nat.blt_eq] using hb)]
    | false => rw [if_neg (blt_no hb)]; exact hputK_eq r n x _
/-- what is known of memory; which numbers are free -/
structure Hp where
  H : Hs
  nx : Nat
  lim : Nat
  rest : List (Nat × Nat)
  deriving DecidableEq, Inhabited
def Hp.isFree (hp : Hp) (b : Nat) : Prop := (hp.nx ≤ b ∧ b < hp.lim) ∨ ∃ r ∈ hp.rest, r.1 ≤ b ∧ b < r.2
/-- may number nx be given? -/
def Hp.can (hp : Hp) : Bool := decide (hp.nx < hp.lim) && hp.rest.all fun r => decide (hp.nx < r.1) || decide (r.2 ≤ hp.nx)
structure HCore (C : Ctx) (H : Hs) (w : World) : Prop where
  at_ : ∀ b blk, hget H b = some blk → ∃ g c, C.bl b = some (g, c) ∧ blk.rel C c w.heap[g]?
  inj : ∀ b b' blk blk' g c c', hget H b = some blk → hget H b' = some blk' → C.bl b = some (g, c) → C.bl b' = some (g, c') → b = b'
structure HRel (C : Ctx) (hp : Hp) (w : World) : Prop extends HCore C hp.H w where
  ext : C.X.rel C.V.g w C.S
  apart : ∀ b g c, C.bl b = some (g, c) → ¬ C.S g
  own : ∀ b blk g c, hget hp.H b = some blk → blk.it = false → C.bl b = some (g, c) → C.O g
  free : ∀ b, hp.isFree b → C.bl b = none ∧ ¬ C.vd b
  blt : ∀ b g c, C.bl b = some (g, c) → g < w.heap.size
/-- how the world goes on -/
structure Kp (C : Ctx) (w : World) (C' : Ctx) (w' : World) : Prop where
  le : C.le C'
  size : w.heap.size ≤ w'.heap.size
  tape : w'.tape = w.tape
  os : w'.os = w.os
  output : w'.output = w.output
  keep : ∀ g, g < w.heap.size → ¬ C.O g → ¬ C.S g → w'.heap[g]? = w.heap[g]?
  newS : ∀ g, C'.S g → C.S g ∨ w.heap.size ≤ g
  new : ∀ g, C'.O g → C.O g ∨ w.heap.size ≤ g
  newbl : ∀ b g c, C'.bl b = some (g, c) → (∃ b0 c0, C.bl b0 = some (g, c0)) ∨ w.heap.size ≤ g
theorem Kp.refl (C : Ctx) (w : World) : Kp C w C w := ⟨.refl C, Nat.le_refl _, rfl, rfl, rfl, fun _ _ _ _ => rfl, fun _ h => .inl h, fun _ h => .inl h, fun b _ c h => .inl ⟨b, c, h⟩⟩
theorem Kp.trans {A B C : Ctx} {u v w : World} (h : Kp A u B v) (k : Kp B v C w) : Kp A u C w := by
  refine ⟨h.le.trans k.le, Nat.le_trans h.size k.size, k.tape.trans h.tape, k.os.trans h.os, k.output.trans h.output, fun g hg hn hS => ?_, fun g hS => ?_, fun g hb => ?_, fun b g c hb => ?_⟩
  · refine (k.keep g (Nat.lt_of_lt_of_le hg h.size) (fun hb => ?_) fun h1 => ?_).trans (h.keep g hg hn hS)
    · rcases h.new g hb with h0 | h0
      · exact hn h0
      · omega
    · rcases h.newS g h1 with h0 | h0
      · exact hS h0
      · omega
  · rcases k.newS g hS with h0 | h0
    · exact h.newS g h0
    · exact .inr (Nat.le_trans h.size h0)
  · rcases k.new g hb with h0 | h0
    · exact h.new g h0
    · exact .inr (Nat.le_trans h.size h0)
  · rcases k.newbl b g c hb with ⟨b0, c0, h0⟩ | h0
    · exact h.newbl b0 g c0 h0
    · exact .inr (Nat.le_trans h.size h0)
theorem Blk.rel.lt {b : Blk} {C : Ctx} {c g : Nat} {w : World} (h : b.rel C c w.heap[g]?) : g < w.heap.size := by
  cases b with
  | cells row T es el => obtain ⟨vs, sp, h1, h2, _⟩ := h; exact (Array.getElem?_eq_some_iff.1 h2).1
  | mp ents clock => obtain ⟨es, h1, h2⟩ := h; exact (Array.getElem?_eq_some_iff.1 h2).1
  | sit s pos => exact (Array.getElem?_eq_some_iff.1 h).1
  | mit m since cur => obtain ⟨g, c0, seen, h1, h2, h3⟩ := h; exact (Array.getElem?_eq_some_iff.1 h2).1
/-- a world whose heap is the same -/
theorem HRel.same {C : Ctx} {hp : Hp} {w w' : World} (h : HRel C hp w) (e : w'.heap = w.heap) : HRel C hp w' := ⟨⟨fun b blk hb => by rw [e]; exact h.at_ b blk hb, h.inj⟩, C.X.keep _ _ _ _ h.ext (by rw [e]; exact Nat.le_refl _) (fun _ _ => by rw [e]), h.apart, h.own, h.free, fun b g c hb => by rw [e]; exact h.blt b g c hb⟩
theorem Kp.same {C : Ctx} {w w' : World} (e : w'.heap = w.heap) (h1 : w'.tape = w.tape) (h2 : w'.os = w.os) (h3 : w'.output = w.output) : Kp C w C w' :=
  ⟨.refl C, by rw [e]; exact Nat.le_refl _, h1, h2, h3, fun _ _ _ _ => by rw [e], fun _ h => .inl h, fun _ h => .inl h, fun b _ c h => .inl ⟨b, c, h⟩⟩
/-- the context in which number n is a new block -/
def Ctx.add (C : Ctx) (n g c : Nat) : Ctx := { C with bl := fun b => if b = n then some (g, c) else C.bl b, O := fun k => k = g ∨ C.O k }
theorem Ctx.le_add {C : Ctx} {n g c : Nat} (h : C.bl n = none) : C.le (C.add n g c) :=
  ⟨fun i hi => ⟨hi, rfl, rfl, rfl⟩, rfl, rfl, fun b x hb => by show (if b = n then _ else _) = _; rw [if_neg (fun e => by rw [e, h] at hb; cases hb)]; exact hb⟩
/-- a new block -/
theorem Hp.can_free {hp : Hp} (h : hp.can = true) : hp.isFree hp.nx := by
  simp only [Hp.can, Bool.and_eq_true, decide_eq_true_eq] at h
  exact .inl ⟨Nat.le_refl _, h.1⟩
theorem Hp.can_next {hp : Hp} (h : hp.can = true) {H : Hs} {b : Nat} (hb : Hp.isFree { hp with H := H, nx := hp.nx + 1 } b) : hp.isFree b ∧ b ≠ hp.nx := by
  simp only [Hp.can, Bool.and_eq_true, decide_eq_true_eq, List.all_eq_true, Bool.or_eq_true] at h
  rcases hb with ⟨h1, h2⟩ | ⟨r, hr, h1, h2⟩
  · simp only at h1 h2
    exact ⟨.inl ⟨by omega, h2⟩, by omega⟩
  · have := h.2 r hr
    exact ⟨.inr ⟨r, hr, h1, h2⟩, by omega⟩
theorem HRel.push {C : Ctx} {hp : Hp} {w : World} (h : HRel C hp w) {c : Nat} {blk : Blk} {o : Obj} (hcan : hp.can = true) (hb : blk.rel (C.add hp.nx w.heap.size c) c (some o)) :
    HRel (C.add hp.nx w.heap.size c) { hp with H := hput hp.H hp.nx blk, nx := hp.nx + 1 } (w.alloc o) ∧ Kp C w (C.add hp.nx w.heap.size c) (w.alloc o) := by
  have hn := (h.free hp.nx (Hp.can_free hcan)).1
  obtain ⟨n, hnn⟩ : ∃ n, n = hp.nx := ⟨_, rfl⟩
  have hcn := @Hp.can_next hp hcan
  rw [← hnn] at hn hb hcn ⊢
  have hle := Ctx.le_add (g := w.heap.size) (c := c) hn
  have old : ∀ g, g < w.heap.size → (w.alloc o).heap[g]? = w.heap[g]? := fun g hg => heap_alloc_old w o g hg
  have hS : ∀ g, C.S g → g < w.heap.size := C.X.lt _ _ _ h.ext
  refine ⟨⟨⟨fun b x hx => ?_, fun b b' x x' g c1 c2 hx hx' hg hg' => ?_⟩, C.X.keep _ _ _ _ h.ext (by simp) (fun k hk => old k (hS k hk)), fun b g c1 hb1 => ?_, fun b x g c1 hx hit hb1 => ?_, fun b hb1 => ?_, fun b g c1 hb1 => ?_⟩, hle, by simp, rfl, rfl, rfl, fun g hg _ _ => old g hg, fun _ h => .inl h, fun g hb' => ?_, fun b g c1 hb1 => ?_⟩
  · rcases hget_put _ _ _ _ _ hx with ⟨rfl, rfl⟩ | hx
    · exact ⟨w.heap.size, c, by simp [Ctx.add], by rw [heap_alloc_new]; exact hb⟩
    · obtain ⟨g, c', k1, k2⟩ := h.at_ b x hx
      exact ⟨g, c', hle.bl _ _ k1, by rw [old g k2.lt]; exact k2.le hle⟩
  · by_cases e : b = n <;> by_cases e' : b' = n
    · rw [e, e']
    · exfalso
      simp [Ctx.add, e] at hg
      simp [Ctx.add, e'] at hg'
      rcases hget_put _ _ _ _ _ hx' with ⟨k, _⟩ | hx'
      · exact e' k
      · obtain ⟨g1, c3, k1, k2⟩ := h.at_ b' x' hx'
        rw [hg'] at k1; cases k1
        have := k2.lt; omega
    · exfalso
      simp [Ctx.add, e] at hg
      simp [Ctx.add, e'] at hg'
      rcases hget_put _ _ _ _ _ hx with ⟨k, _⟩ | hx
      · exact e k
      · obtain ⟨g1, c3, k1, k2⟩ := h.at_ b x hx
        rw [hg] at k1; cases k1
        have := k2.lt; omega
    · simp [Ctx.add, e] at hg
      simp [Ctx.add, e'] at hg'
      rcases hget_put _ _ _ _ _ hx with ⟨k, _⟩ | hx
      · exact absurd k e
      · rcases hget_put _ _ _ _ _ hx' with ⟨k, _⟩ | hx'
        · exact absurd k e'
        · exact h.inj b b' x x' g c1 c2 hx hx' hg hg'
  · by_cases e : b = n
    · simp [Ctx.add, e] at hb1
      intro hg; have := hS g hg; omega
    · simp [Ctx.add, e] at hb1; exact h.apart b g c1 hb1
  · by_cases e : b = n
    · simp [Ctx.add, e] at hb1; exact .inl hb1.1.symm
    · simp [Ctx.add, e] at hb1
      rcases hget_put _ _ _ _ _ hx with ⟨k, _⟩ | hx
      · exact absurd k e
      · exact .inr (h.own b x g c1 hx hit hb1)
  · obtain ⟨m1, m2⟩ := hcn hb1
    obtain ⟨k1, k2⟩ := h.free b m1
    refine ⟨?_, k2⟩
    simp only [Ctx.add]
    rw [if_neg m2]
    exact k1
  · by_cases e : b = n
    · simp [Ctx.add, e] at hb1; rw [← hb1.1]; simp
    · simp [Ctx.add, e] at hb1; have := h.blt b g c1 hb1; simp; omega
  · rcases hb' with rfl | hb'
    · exact .inr (Nat.le_refl _)
    · exact .inl hb'
  · by_cases e : b = n
    · simp [Ctx.add, e] at hb1; exact .inr (by omega)
    · simp [Ctx.add, e] at hb1; exact .inl ⟨b, c1, hb1⟩
/-- a block that turns -/
theorem HRel.turn {C : Ctx} {hp : Hp} {w w' : World} (h : HRel C hp w) {n g c : Nat} {blk blk0 : Blk} (h0 : hget hp.H n = some blk0) (hit0 : blk0.it = false) (hg : C.bl n = some (g, c)) (hw : ∀ k, k ≠ g → w'.heap[k]? = w.heap[k]?) (hs : w'.heap.size = w.heap.size)
    (h1 : w'.tape = w.tape) (h2 : w'.os = w.os) (h3 : w'.output = w.output) (hb : blk.rel C c w'.heap[g]?) : HRel C { hp with H := hset hp.H n blk } w' ∧ Kp C w C w' := by
  refine ⟨⟨⟨fun b x hx => ?_, fun b b' x x' g1 c1 c2 hx hx' hg1 hg2 => ?_⟩, C.X.keep _ _ _ _ h.ext (by omega) (fun k hk => hw k fun e => h.apart n g c hg (e ▸ hk)), h.apart, fun b x g1 c1 hx hit hg1 => ?_, h.free, fun b g1 c1 hb1 => by rw [hs]; exact h.blt b g1 c1 hb1⟩, .refl C, by omega, h1, h2, h3, fun k hk hn _ => hw k fun e => hn (e ▸ h.own n blk0 g c h0 hit0 hg), fun _ h => .inl h, fun _ h => .inl h, fun b _ c h => .inl ⟨b, c, h⟩⟩
  · rcases hget_set _ _ _ _ _ hx with ⟨rfl, rfl, _⟩ | ⟨hne, hx⟩
    · exact ⟨g, c, hg, hb⟩
    · obtain ⟨g1, c1, k1, k2⟩ := h.at_ b x hx
      refine ⟨g1, c1, k1, ?_⟩
      rw [hw g1 fun e => hne (h.inj b n x blk0 g1 c1 c hx h0 k1 (e ▸ hg))]
      exact k2
  · have key : ∀ b x, hget (hset hp.H n blk) b = some x → ∃ y, hget hp.H b = some y := fun b x hx => by
      rcases hget_set _ _ _ _ _ hx with ⟨rfl, _, _⟩ | ⟨_, hx⟩
      · exact ⟨_, h0⟩
      · exact ⟨_, hx⟩
    obtain ⟨y, hy⟩ := key b x hx
    obtain ⟨y', hy'⟩ := key b' x' hx'
    exact h.inj b b' y y' g1 c1 c2 hy hy' hg1 hg2
  · rcases hget_set _ _ _ _ _ hx with ⟨rfl, rfl, _⟩ | ⟨hne, hx⟩
    · exact h.own b blk0 g1 c1 h0 hit0 hg1
    · exact h.own b x g1 c1 hx hit hg1
theorem HRel.del {C : Ctx} {hp : Hp} {w : World} (h : HRel C hp w) (n : Nat) : HRel C { hp with H := hdel hp.H n } w :=
  ⟨⟨fun b x hx => h.at_ b x (hget_del _ _ _ _ hx).2, fun b b' x x' g c c' hx hx' => h.inj b b' x x' g c c' (hget_del _ _ _ _ hx).2 (hget_del _ _ _ _ hx').2⟩, h.ext, h.apart, fun b x g c hx hit hg => h.own b x g c (hget_del _ _ _ _ hx).2 hit hg, h.free, h.blt⟩
end Go.Proofs.YtkhammleijbpeaaGreat.Sx
end
section
set_option linter.unusedVariables false
set_option linter.unusedSimpArgs false
namespace Go.Proofs.YtkhammleijbpeaaGreat.Sx
open Go
noncomputable section
/-- what comes of a run: one end, or as the tests say -/
inductive T (α : Type) where
  | ret (a : α)
  | ite (c : E) (t e : T α)
  | both (t e : T α)
  | lets (f : Nat) (as : List E) (s n : Nat) (t : T α)
  | bad (why : String)
  /-- a way that leads nowhere new -/
  | skip
  deriving Inhabited
def Env.lets (V : Env) (f : Nat) (as : List E) (s n : Nat) : Env :=
  { V with i := fun j => if s ≤ j ∧ j < s + n then (V.f f V.g (as.map (E.den V))).1.getD (j - s) 0 else V.i j, g := (V.f f V.g (as.map (E.den V))).2 }
def T.holds {α : Type} (Φ : Env → α → Prop) : T α → Env → Prop
  | .ret a, V => Φ V a
  | .ite c t e, V => (c.tr V = true → t.holds Φ V) ∧ (c.tr V = false → e.holds Φ V)
  | .both t e, V => t.holds Φ V ∧ e.holds Φ V
  | .lets f as s n t, V => t.holds Φ (V.lets f as s n)
  | .bad _, _ => False
  | .skip, _ => True
/-- by the recursor itself: the kernel is quicker so -/
def T.bind {α β : Type} (k : α → T β) (t : T α) : T β :=
  T.rec (motive := fun _ => T β) k (fun c _ _ t e => .ite c t e) (fun _ _ t e => .both t e) (fun f as s n _ t => .lets f as s n t) (fun w => .bad w) .skip t
theorem T.holds_bind {α β : Type} {Φ : Env → β → Prop} {k : α → T β} : ∀ {t : T α} {V : Env}, (t.bind k).holds Φ V ↔ t.holds (fun V a => (k a).holds Φ V) V
  | .ret a, V => Iff.rfl
  | .ite c t e, V => by
    show ((c.tr V = true → (T.bind k t).holds Φ V) ∧ (c.tr V = false → (T.bind k e).holds Φ V)) ↔ _
    rw [T.holds_bind, T.holds_bind]
    exact Iff.rfl
  | .both t e, V => by
    show ((T.bind k t).holds Φ V ∧ (T.bind k e).holds Φ V) ↔ _
    rw [T.holds_bind, T.holds_bind]
    exact Iff.rfl
  | .lets f as s n t, V => by
    show (T.bind k t).holds Φ (V.lets f as s n) ↔ _
    rw [T.holds_bind]
    exact Iff.rfl
  | .bad _, V => Iff.rfl
  | .skip, V => Iff.rfl
theorem T.holds_mono {α : Type} {Φ Ψ : Env → α → Prop} (h : ∀ V a, Φ V a → Ψ V a) : ∀ {t : T α} {V : Env}, t.holds Φ V → t.holds Ψ V
  | .ret a, V, k => h _ _ k
  | .ite c t e, V, k => ⟨fun hc => T.holds_mono h (k.1 hc), fun hc => T.holds_mono h (k.2 hc)⟩
  | .both t e, V, k => ⟨T.holds_mono h k.1, T.holds_mono h k.2⟩
  | .lets f as s n t, V, k => T.holds_mono (t := t) h k
  | .bad _, V, k => k
  | .skip, V, k => k
/-- a test: decided if it is one of the text -/
def E.known : E → Option Bool
  | .tt b => some b
  | .cmp op a b =>
    match a.rng, b.rng with
    | some (l, h), some (l', h') =>
      match op with
      | .lss => if h < l' then some true else if h' ≤ l then some false else none
      | .leq => if h ≤ l' then some true else if h' < l then some false else none
      | .gtr => if h' < l then some true else if h ≤ l' then some false else none
      | .geq => if h' ≤ l then some true else if h < l' then some false else none
      | .eql => if h < l' ∨ h' < l then some false else if l = h ∧ l' = h' ∧ l = l' then some true else none
      | .neq => if h < l' ∨ h' < l then some true else if l = h ∧ l' = h' ∧ l = l' then some false else none
      | _ => none
    | _, _ => none
  | _ => none
def T.iff {α : Type} (c : E) (t e : Unit → T α) : T α :=
  match c.known with
  | some true => t ()
  | some false => e ()
  | none => .ite c (t ()) (e ())
abbrev XR := T (SV × Hp)
/-- what an operation of the model does, told by its term -/
def Out (P : Program) (C : Ctx) (w : World) (s : Sem Value) (t : XR) : Prop :=
  ∀ Φ : Env → SV × Hp → Prop, t.holds Φ C.V → ∃ C' w' v sv hp', s.run P w = .ok v w' ∧ sv.rel C' v ∧ HRel C' hp' w' ∧ Kp C w C' w' ∧ Φ C'.V (sv, hp')
/-- the same of one that has no value -/
def OutU (P : Program) (C : Ctx) (w : World) (s : Sem Unit) (t : XR) : Prop :=
  ∀ Φ : Env → SV × Hp → Prop, t.holds Φ C.V → ∃ C' w' hp', s.run P w = .ok () w' ∧ HRel C' hp' w' ∧ Kp C w C' w' ∧ Φ C'.V (SV.undef, hp')
theorem Out.bad {P : Program} {C : Ctx} {w : World} {s : Sem Value} {why : String} : Out P C w s (.bad why) := fun _ h => h.elim
theorem OutU.bad {P : Program} {C : Ctx} {w : World} {s : Sem Unit} {why : String} : OutU P C w s (.bad why) := fun _ h => h.elim
theorem Out.pure {P : Program} {C : Ctx} {w : World} {s : Sem Value} {sv : SV} {hp : Hp} {v : Value} (h : HRel C hp w) (hs : s.run P w = .ok v w) (hr : sv.rel C v) : Out P C w s (.ret (sv, hp)) :=
  fun _ k => ⟨C, w, v, sv, hp, hs, hr, h, .refl C w, k⟩
theorem SV.rel_ptr {C : Ctx} {b g c : Nat} (h : C.bl b = some (g, c)) {o : Nat} : SV.rel C (.sc (.ptr b o)) (.pointer (some ⟨g, o, none⟩)) := ⟨g, c, h, rfl⟩
theorem env_add (C : Ctx) (n g c : Nat) : (C.add n g c).V = C.V := rfl
/-! ### a new block -/
def xnew (hp : Hp) (row : List SC) (T : TypeId) (es : Nat) (el : Bool) (k : Nat → SV) : XR :=
  if hp.can ∧ row.all SC.ok then scsK row fun row => natK hp.nx fun nx => hputK hp.H nx (.cells row T es el) fun H => natK (nx + 1) fun nx' => .ret (k nx, { hp with H := H, nx := nx' }) else .bad "new"
theorem xnew_ok {C : Ctx} {hp : Hp} {w : World} (h : HRel C hp w) {row : List SC} {vs : List Value} (hv : All2 (SC.rel C) row vs) {T : TypeId} {es c : Nat} {el : Bool} {spare : List Value} (h1 : el = false → spare = []) (h2 : el = true → c * es = (vs ++ spare).length)
    {k : Nat → SV} {Φ : Env → SV × Hp → Prop} (hx : (xnew hp row T es el k).holds Φ C.V) :
    ∃ hp', HRel (C.add hp.nx w.heap.size c) hp' (w.alloc (.cells (vs ++ spare).toArray T)) ∧ Kp C w (C.add hp.nx w.heap.size c) (w.alloc (.cells (vs ++ spare).toArray T)) ∧ (C.add hp.nx w.heap.size c).bl hp.nx = some (w.heap.size, c) ∧ Φ C.V (k hp.nx, hp') := by
  unfold xnew at hx
  split at hx
  · rename_i hc
    rw [scsK_eq, natK_eq, hputK_eq, natK_eq] at hx
    have hn := (h.free hp.nx (Hp.can_free hc.1)).1
    obtain ⟨k1, k2⟩ := h.push (c := c) (blk := .cells row T es el) (o := .cells (vs ++ spare).toArray T) hc.1
      ⟨vs, spare, hv.mono fun _ _ => SC.rel.le (Ctx.le_add hn) _ _, rfl, h1, h2, hc.2⟩
    exact ⟨_, k1, k2, by simp [Ctx.add], hx⟩
  · exact hx.elim
/-- the same of a row that is laid out already, or is never to be -/
def xnewW (hp : Hp) (row : List SC) (T : TypeId) (es : Nat) (el : Bool) (k : Nat → SV) : XR :=
  if hp.can then natK hp.nx fun nx => hputK hp.H nx (.cells row T es el) fun H => natK (nx + 1) fun nx' => .ret (k nx, { hp with H := H, nx := nx' }) else .bad "new"
theorem xnewW_new {hp : Hp} {row : List SC} {T : TypeId} {es : Nat} {el : Bool} {k : Nat → SV} (ho : row.all SC.ok = true) {Φ : Env → SV × Hp → Prop} {V : Env} (h : (xnewW hp row T es el k).holds Φ V) : (xnew hp row T es el k).holds Φ V := by
  unfold xnewW at h
  unfold xnew
  split at h
  · rename_i hc
    rw [if_pos ⟨hc, ho⟩, scsK_eq]
    exact h
  · exact h.elim
theorem alloc_eq (w : World) (o : Obj) : ({ w with heap := w.heap.push o } : World) = w.alloc o := rfl
theorem underlying_of_info {P : Program} {t : TypeId} {d : TypeDesc} (h : P.underlying t = some d) (w : World) : (underlying t).run P w = .ok d w := run_underlying h w
theorem run_info {P : Program} {t : TypeId} {i : TypeInfo} (h : P.info? t = some i) (w : World) : (typeInfo t).run P w = .ok i w := by simp [typeInfo, h]
theorem run_size {P : Program} {t : TypeId} {i : TypeInfo} (h : P.info? t = some i) (w : World) : (sizeOf t).run P w = .ok i.size w := by simp [sizeOf, run_info h]
theorem run_zero {P : Program} {t : TypeId} {i : TypeInfo} {z : Value} (h : P.info? t = some i) (hz : i.zero = some z) (w : World) : (zeroValue t).run P w = .ok z w := by simp [zeroValue, run_info h, hz]
def xzero (P : Program) (t : TypeId) : Option PV :=
  match P.info? t with
  | some i => match i.zero with
    | some z => ofValue z
    | none => none
  | none => none
theorem xzero_ok {P : Program} {t : TypeId} {p : PV} (h : xzero P t = some p) (C : Ctx) : ∃ z, (∀ w, (zeroValue t).run P w = .ok z w) ∧ p.rel C z := by
  unfold xzero at h
  split at h
  · rename_i i hi
    split at h
    · rename_i z hz
      exact ⟨z, fun w => run_zero hi hz w, ofValue_rel C h⟩
    · cases h
  · cases h
def xalloc (P : Program) (elem : TypeId) (hp : Hp) : XR :=
  match xzero P elem with
  | some p => xnew hp p.cells elem 0 false fun n => .sc (.ptr n 0)
  | none => .bad "alloc"
theorem xalloc_ok {P : Program} {C : Ctx} {hp : Hp} {w : World} (h : HRel C hp w) (elem : TypeId) : Out P C w (Instr.alloc elem true (.tuple #[])) (xalloc P elem hp) := by
  intro Φ hx
  unfold xalloc at hx
  split at hx
  · rename_i p hp1
    obtain ⟨z, hz, hr⟩ := xzero_ok hp1 C
    obtain ⟨vs, hv, hc⟩ := hr.cells
    obtain ⟨hp', k1, k2, k3, k4⟩ := xnew_ok h hv (spare := []) (c := 0) (el := false) (fun _ => rfl) (fun e => nomatch e) hx
    refine ⟨_, _, .pointer (some ⟨w.heap.size, 0, none⟩), .sc (.ptr hp.nx 0), _, ?_, SV.rel_ptr k3, k1, k2, by rw [env_add]; exact k4⟩
    simp [Instr.alloc, hz, newVar, newRow, hc, alloc_eq]
  · exact hx.elim
def xbox (elem : TypeId) (v : SV) (hp : Hp) : XR :=
  match v with
  | .pv p => xnew hp p.cells elem 0 false fun n => .sc (.ptr n 0)
  | _ => .bad "box"
theorem xbox_ok {P : Program} {C : Ctx} {hp : Hp} {w : World} (h : HRel C hp w) (elem : TypeId) {sv : SV} {v : Value} (hr : sv.rel C v) : Out P C w (Instr.box elem v) (xbox elem sv hp) := by
  intro Φ hx
  unfold xbox at hx
  split at hx
  · rename_i p
    obtain ⟨vs, hv, hc⟩ := PV.rel.cells (p := p) hr
    obtain ⟨hp', k1, k2, k3, k4⟩ := xnew_ok h hv (spare := []) (c := 0) (el := false) (fun _ => rfl) (fun e => nomatch e) hx
    refine ⟨_, _, .pointer (some ⟨w.heap.size, 0, none⟩), .sc (.ptr hp.nx 0), _, ?_, SV.rel_ptr k3, k1, k2, by rw [env_add]; exact k4⟩
    simp [Instr.box, newVar, newRow, hc, alloc_eq]
  · exact hx.elim
/-! ### loads, stores -/
def xagg (P : Program) (t : TypeId) : Option Bool :=
  match P.underlying t with
  | some (.struct _) => some true
  | some (.array _ _) => some true
  | some _ => some false
  | none => none
theorem xagg_ok {P : Program} {t : TypeId} {b : Bool} (h : xagg P t = some b) (w : World) : (isAgg t).run P w = .ok b w := by
  unfold xagg at h
  unfold isAgg
  rw [Sem.run_bind]
  split at h
  · rename_i hu; cases h; rw [run_underlying hu]; rfl
  · rename_i hu; cases h; rw [run_underlying hu]; rfl
  · rename_i d h1 h2 hu
    cases h; rw [run_underlying hu]
    simp only [Result.andThen_ok]
    cases d <;> first | rfl | exact absurd hu (h2 _ _) | exact absurd hu (h1 _)
  · cases h
def xsize (P : Program) (t : TypeId) : Option Nat := (P.info? t).map (·.size)
theorem xsize_ok {P : Program} {t : TypeId} {n : Nat} (h : xsize P t = some n) (w : World) : (sizeOf t).run P w = .ok n w := by
  obtain ⟨i, hi, rfl⟩ := Option.map_eq_some_iff.1 h
  exact run_size hi w
/-- the cells of a row from a place on -/
def xread (P : Program) (t : TypeId) (row : List SC) (o : Nat) : Option PV :=
  match xagg P t with
  | some true => match xsize P t with
    | some n => if o + n ≤ row.length then some (.agg ((row.drop o).take n)) else none
    | none => none
  | some false => match row[o]? with
    | some c => some (.one c)
    | none => none
  | none => none
theorem xread_ok {P : Program} {t : TypeId} {row : List SC} {o : Nat} {p : PV} (h : xread P t row o = some p) {C : Ctx} {w : World} {g : Nat} {vs sp : List Value} {T : TypeId} {fr : Nat × Nat} (hv : All2 (SC.rel C) row vs) (hg : w.heap[g]? = some (.cells (vs ++ sp).toArray T fr)) :
    ∃ v, (loadVar t ⟨g, o, none⟩).run P w = .ok v w ∧ p.rel C v := by
  have hcell : ∀ j v, vs[j]? = some v → w.cell? ⟨g, j, none⟩ = some v := fun j v hj => by
    simp only [World.cell?, hg]
    have hl : j < vs.length := (List.getElem?_eq_some_iff.1 hj).1
    simp [List.getElem?_append_left hl, hj]
  unfold xread at h
  split at h
  · rename_i ha
    split at h
    · rename_i n hn
      split at h
      · rename_i hle
        cases h
        have hl := hv.length
        have hc := run_loadCells_list (P := P) w ⟨g, o, none⟩ ((vs.drop o).take n) (fun j v hj => by
          rw [List.getElem?_take] at hj
          split at hj
          · rw [List.getElem?_drop] at hj
            rw [Addr.add_lit]
            exact hcell _ _ hj
          · cases hj)
        have hlen : ((vs.drop o).take n).length = n := by simp; omega
        rw [hlen] at hc
        refine ⟨_, ?_, _, (hv.drop o).take n, rfl⟩
        simp [loadVar, xagg_ok ha, xsize_ok hn, hc]
      · cases h
    · cases h
  · rename_i ha
    split at h
    · rename_i c hc
      cases h
      obtain ⟨v, hv1, hv2⟩ := hv.get _ _ hc
      refine ⟨v, ?_, hv2⟩
      simp [loadVar, xagg_ok ha, hcell _ _ hv1]
    · cases h
  · cases h
def xload (P : Program) (t : TypeId) (a : SV) (hp : Hp) : XR :=
  match a with
  | .pv (.one (.ptr b o)) =>
    match hget hp.H b with
    | some (.cells row _ _ _) => match xread P t row o with
      | some p => .ret (.pv p, hp)
      | none => .bad "load outside"
    | _ => .bad "load no row"
  | _ => .bad "load no pointer"
theorem xload_ok {P : Program} {C : Ctx} {hp : Hp} {w : World} (h : HRel C hp w) (t : TypeId) {sv : SV} {v : Value} (hr : sv.rel C v) : Out P C w (Instr.loadAt t v) (xload P t sv hp) := by
  unfold xload
  split
  · rename_i b o
    split
    · rename_i row T es el hb
      split
      · rename_i p hp1
        obtain ⟨g, c, hg, hv, ⟨vs, sp, h1, h2, _⟩⟩ : ∃ g c, C.bl b = some (g, c) ∧ v = .pointer (some ⟨g, o, none⟩) ∧ Blk.rel C c w.heap[g]? (.cells row T es el) := by
          obtain ⟨g, c, h1, h2⟩ := hr
          obtain ⟨g', c', k1, k2⟩ := h.at_ _ _ hb
          rw [h1] at k1; cases k1
          exact ⟨g, c, h1, h2, k2⟩
        obtain ⟨u, k1, k2⟩ := xread_ok hp1 h1 h2
        subst hv
        exact Out.pure h (by simp [Instr.loadAt, Instr.sureAddr, k1]) k2
      · exact Out.bad
    · exact Out.bad
  · exact Out.bad
def xsplice : List SC → Nat → List SC → List SC
  | row, 0, [] => row
  | _ :: row, 0, c :: cs => c :: xsplice row 0 cs
  | x :: row, n + 1, cs => x :: xsplice row n cs
  | [], _, _ => []
def xspliceK {β : Type} : List SC → Nat → List SC → (List SC → β) → β
  | row, 0, [], k => k row
  | _ :: row, 0, c :: cs, k => scK c fun c => xspliceK row 0 cs fun r => k (c :: r)
  | x :: row, n + 1, cs, k => xspliceK row n cs fun r => k (x :: r)
  | [], _, _, k => k []
theorem xspliceK_eq {β : Type} : ∀ (row : List SC) (o : Nat) (cs : List SC) (k : List SC → β), xspliceK row o cs k = k (xsplice row o cs)
  | row, 0, [], k => by cases row <;> rfl
  | [], 0, c :: cs, k => rfl
  | x :: row, 0, c :: cs, k => by rw [xspliceK, scK_eq, xspliceK_eq]; rfl
  | [], n + 1, cs, k => rfl
  | x :: row, n + 1, cs, k => by rw [xspliceK, xspliceK_eq]; rfl
theorem xsplice_eq : ∀ (row : List SC) (o : Nat) (cs : List SC), o + cs.length ≤ row.length → xsplice row o cs = row.take o ++ cs ++ row.drop (o + cs.length)
  | row, 0, [], _ => by cases row <;> simp [xsplice]
  | [], 0, c :: cs, h => by simp at h
  | x :: row, 0, c :: cs, h => by
    have := xsplice_eq row 0 cs (by simp at h ⊢; omega)
    simp [xsplice, this, Nat.add_comm]
  | [], n + 1, cs, h => by simp at h
  | x :: row, n + 1, cs, h => by
    have := xsplice_eq row n cs (by simp at h ⊢; omega)
    rw [xsplice, this]
    have e : n + 1 + cs.length = (n + cs.length) + 1 := by omega
    rw [e]
    simp
def xput (b o : Nat) (cs : List SC) (hp : Hp) : XR :=
  match hget hp.H b with
  | some (.cells row T es el) => if o + cs.length ≤ row.length ∧ cs.all SC.ok then xspliceK row o cs fun row => hsetK hp.H b (.cells row T es el) fun H => .ret (SV.undef, { hp with H := H }) else .bad "store outside"
  | _ => .bad "store no row"
theorem xput_ok {P : Program} {C : Ctx} {hp : Hp} {w : World} (h : HRel C hp w) {b o g c : Nat} (hg : C.bl b = some (g, c)) {cs : List SC} {vs : List Value} (hv : All2 (SC.rel C) cs vs) : OutU P C w (storeCells ⟨g, o, none⟩ vs) (xput b o cs hp) := by
  intro Φ hx
  unfold xput at hx
  split at hx
  · rename_i row T es el hb
    split at hx
    · rename_i hc
      rw [xspliceK_eq, hsetK_eq] at hx
      obtain ⟨g', c', k1, k2⟩ := h.at_ _ _ hb
      rw [hg] at k1; cases k1
      obtain ⟨us, sp, h1, h2, h3, h4, h5⟩ := k2
      have hl1 := h1.length
      have hl2 := hv.length
      have hone : ∀ v ∈ vs, v.oneCell' = true := fun v hm => by
        obtain ⟨i, hi⟩ := List.getElem?_of_mem hm
        obtain ⟨a, ha, hr⟩ := hv.getR i v hi
        exact hr.one (List.all_eq_true.1 hc.2 a (List.mem_of_getElem? ha))
      have hst := run_storeCells_at P g o T vs 0 (us ++ sp).toArray w h2 (by simp; omega) hone
      simp only [Nat.add_zero] at hst
      have hrow : All2 (SC.rel C) (xsplice row o cs) (us.take o ++ vs ++ us.drop (o + vs.length)) := by
        rw [xsplice_eq row o cs hc.1, hl2]
        exact ((h1.take o).append hv).append (h1.drop _)
      have hcur : (List.take o (us ++ sp) ++ vs ++ List.drop (o + vs.length) (us ++ sp)) = (us.take o ++ vs ++ us.drop (o + vs.length)) ++ sp := by
        rw [List.take_append_of_le_length (by omega), List.drop_append_of_le_length (by omega)]
        simp [List.append_assoc]
      have hb' : Blk.rel C c (w.setRow g ((us.take o ++ vs ++ us.drop (o + vs.length)) ++ sp).toArray).heap[g]? (.cells (xsplice row o cs) T es el) := by
        refine ⟨_, sp, hrow, setRow_heap w g _ _ T _ h2, h3, fun e => ?_, ?_⟩
        · rw [h4 e]; simp; omega
        · rw [xsplice_eq row o cs hc.1]
          simp only [List.all_append, Bool.and_eq_true]
          refine ⟨⟨?_, hc.2⟩, ?_⟩
          · exact List.all_eq_true.2 fun x hx => List.all_eq_true.1 h5 x (List.mem_of_mem_take hx)
          · exact List.all_eq_true.2 fun x hx => List.all_eq_true.1 h5 x (List.mem_of_mem_drop hx)
      obtain ⟨k1, k2⟩ := h.turn (w' := w.setRow g ((us.take o ++ vs ++ us.drop (o + vs.length)) ++ sp).toArray) hb rfl hg (fun k hk => setRow_other w g k _ hk) (by simp) rfl rfl rfl hb'
      refine ⟨_, _, _, ?_, k1, k2, hx⟩
      rw [hst]
      show Result.ok () (w.setRow g (List.take o (us ++ sp) ++ vs ++ List.drop (o + vs.length) (us ++ sp)).toArray) = _
      rw [hcur]
    · exact hx.elim
  · exact hx.elim
def xstore (P : Program) (t : TypeId) (a v : SV) (hp : Hp) : XR :=
  match a, v with
  | .pv (.one (.ptr b o)), .pv p =>
    if xsize P t = some p.cells.length then xput b o p.cells hp else .bad "store size"
  | _, _ => .bad "store no pointer"
theorem xstore_ok {P : Program} {C : Ctx} {hp : Hp} {w : World} (h : HRel C hp w) (t : TypeId) {sa sv : SV} {a v : Value} (ha : sa.rel C a) (hr : sv.rel C v) : OutU P C w (Instr.storeAt t a v) (xstore P t sa sv hp) := by
  unfold xstore
  split
  · rename_i b o p
    split
    · rename_i hs
      obtain ⟨g, c, hg, rfl⟩ := ha
      obtain ⟨vs, hv, hc⟩ := PV.rel.cells (p := p) hr
      have hl := hv.length
      have e : (Instr.storeAt t (.pointer (some ⟨g, o, none⟩)) v).run P w = (storeCells ⟨g, o, none⟩ vs).run P w := by
        have : v.cells.size = p.cells.length := by rw [hc]; simp [hl]
        simp [Instr.storeAt, Instr.sureAddr, storeVar, xsize_ok hs, hc, hl]
      intro Φ hx
      rw [e]
      exact xput_ok h hg hv Φ hx
    · exact OutU.bad
  · exact OutU.bad
end
end Go.Proofs.YtkhammleijbpeaaGreat.Sx
end
section
set_option linter.unusedVariables false
set_option linter.unusedSimpArgs false
namespace Go.Proofs.YtkhammleijbpeaaGreat.Sx
open Go
noncomputable section
theorem pow_pos' (n : Nat) : (0 : Int) < 2 ^ n := Int.pow_pos (by decide)
theorem fdiv_le {x p : Int} (hx : 0 ≤ x) (hp : 0 < p) : 0 ≤ x.fdiv p ∧ x.fdiv p ≤ x := by
  rw [Int.fdiv_eq_ediv_of_nonneg _ (by omega)]
  exact ⟨Int.ediv_nonneg hx (by omega), Int.ediv_le_self _ hx⟩
theorem shr_rng {x h : Int} {k : IntKind} {y : Int} (h0 : 0 ≤ x) (h1 : x ≤ h) : 0 ≤ binD .shr k x y ∧ binD .shr k x y ≤ h := by
  obtain ⟨a, b⟩ := fdiv_le h0 (pow_pos' (min y.toNat k.bits))
  exact ⟨a, by unfold binD; simp only; omega⟩
theorem shr_rng2 {x h : Int} {k : IntKind} {y : Int} (h0 : 0 ≤ x) (h1 : x ≤ h) : 0 ≤ binD .shr k x y ∧ binD .shr k x y ≤ h / 2 ^ (min y.toNat k.bits) := by
  refine ⟨(shr_rng h0 h1).1, ?_⟩
  unfold binD
  simp only
  rw [Int.fdiv_eq_ediv_of_nonneg _ (by have := pow_pos' (min y.toNat k.bits); omega)]
  exact Int.ediv_le_ediv (pow_pos' _) h1
theorem wrap_nonneg (k : IntKind) (hk : k.signed = false) (n : Int) (h : 0 ≤ n) : k.wrap n ≤ n := by
  cases k <;> simp [IntKind.signed] at hk <;> simp [IntKind.wrap, IntKind.signed, IntKind.bits] <;> omega
theorem and_rng {x y h : Int} {k : IntKind} (hk : k.signed = false) (h0 : 0 ≤ y) (h1 : y ≤ h) : 0 ≤ bitsD .and k x y ∧ bitsD .and k x y ≤ min h (kHi k) := by
  obtain ⟨a, b⟩ := wrap_rng k (BitVec.ofInt k.bits x &&& BitVec.ofInt k.bits y).toNat
  have h3 := and_nat_le k.bits x y h0
  have h4 := wrap_nonneg k hk _ (show (0 : Int) ≤ ((BitVec.ofInt k.bits x &&& BitVec.ofInt k.bits y).toNat : Int) by omega)
  unfold bitsD
  simp only
  refine ⟨?_, by omega⟩
  have : kLo k = 0 := by cases k <;> first | rfl | simp [IntKind.signed] at hk
  omega
theorem and_rng_s {x y h : Int} {k : IntKind} (h0 : 0 ≤ y) (h1 : y ≤ h) (h2 : h ≤ kHi k) : 0 ≤ bitsD .and k x y ∧ bitsD .and k x y ≤ h := by
  have h3 := and_nat_le k.bits x y h0
  have hlo : kLo k ≤ 0 := by cases k <;> decide
  have e := wrap_in k (BitVec.ofInt k.bits x &&& BitVec.ofInt k.bits y).toNat (by omega) (by omega)
  unfold bitsD
  simp only
  rw [e]
  omega
theorem bits_rng (op : BinOp) (k : IntKind) (x y : Int) : kLo k ≤ bitsD op k x y ∧ bitsD op k x y ≤ kHi k := by
  unfold bitsD; split <;> exact wrap_rng _ _
theorem E.rng_ok (V : Env) (d : Nat → Prop) : ∀ (e : E) (l h : Int), e.sc V d → e.rng = some (l, h) → l ≤ e.den V ∧ e.den V ≤ h := by
  intro e
  induction e with
  | lit n => intro l h _ hr; simp only [E.rng, Option.some.injEq, Prod.mk.injEq] at hr; rw [den_lit]; omega
  | var lo hi i => intro l h hs hr; simp only [E.rng, Option.some.injEq, Prod.mk.injEq] at hr; obtain ⟨rfl, rfl⟩ := hr; rw [den_var]; exact hs.2
  | bin op k a b iha ihb =>
    intro l h hs hr
    rw [den_bin]
    cases op with
    | shr =>
      simp only [E.rng] at hr
      split at hr
      · rename_i l1 h1 n ha
        split at hr
        · rename_i h0
          cases hr
          have := iha _ _ hs.1 ha
          exact shr_rng2 (by omega) this.2
        · cases hr
      · rename_i l1 h1 ha hn
        split at hr
        · rename_i h0
          cases hr
          have := iha _ _ hs.1 ha
          exact shr_rng (by omega) this.2
        · cases hr
      · cases hr
    | rem => simp [E.rng] at hr
    | and =>
      simp only [E.rng] at hr
      split at hr
      · rename_i l1 h1 hk hb
        split at hr
        · cases hr
          have := ihb _ _ hs.2 hb
          exact and_rng hk (by omega) this.2
        · cases hr
          have := bits_rng .and k (a.den V) (b.den V)
          have e : kLo k = 0 := by cases k <;> first | rfl | simp [IntKind.signed] at hk
          rw [e] at this
          exact this
      · rename_i l1 h1 hk hb
        split at hr
        · rename_i h0
          cases hr
          have := ihb _ _ hs.2 hb
          exact and_rng_s (by omega) this.2 h0.2
        · cases hr; exact bits_rng .and k _ _
      · cases hr; exact bits_rng .and k _ _
    | add => simp only [E.rng] at hr; cases hr; exact wrap_rng _ _
    | sub => simp only [E.rng] at hr; cases hr; exact wrap_rng _ _
    | mul => simp only [E.rng] at hr; cases hr; exact wrap_rng _ _
    | quo => simp only [E.rng] at hr; cases hr; exact wrap_rng _ _
    | or => simp only [E.rng] at hr; cases hr; exact bits_rng .or k _ _
    | xor => simp only [E.rng] at hr; cases hr; exact bits_rng .xor k _ _
    | andNot => simp only [E.rng] at hr; cases hr; exact bits_rng .andNot k _ _
    | shl => simp only [E.rng] at hr; cases hr; exact wrap_rng _ _
    | _ => simp [E.rng] at hr
  | pl op a b iha ihb =>
    intro l h hs hr
    rw [den_pl]
    cases op with
    | add =>
      simp only [E.rng] at hr
      split at hr
      · rename_i l1 h1 l2 h2 ha hb
        cases hr
        have := iha _ _ hs.1 ha
        have := ihb _ _ hs.2 hb
        simp only [plD]; omega
      · cases hr
    | sub =>
      simp only [E.rng] at hr
      split at hr
      · rename_i l1 h1 l2 h2 ha hb
        cases hr
        have := iha _ _ hs.1 ha
        have := ihb _ _ hs.2 hb
        simp only [plD]; omega
      · cases hr
    | rem =>
      cases b <;> simp only [E.rng] at hr <;> try (cases hr; done)
      split at hr
      · rename_i h0
        cases hr
        simp only [plD, den_lit]
        exact ⟨Int.emod_nonneg _ (by omega), by have := Int.emod_lt_of_pos (a.den V) h0; omega⟩
      · cases hr
    | quo =>
      cases b <;> simp only [E.rng] at hr <;> try (cases hr; done)
      split at hr
      · rename_i l1 h1 ha
        split at hr
        · rename_i h0
          cases hr
          have := iha _ _ hs.1 ha
          simp only [plD, den_lit]
          exact ⟨Int.ediv_nonneg (by omega) (by omega), Int.ediv_le_ediv h0.2 this.2⟩
        · cases hr
      · cases hr
    | _ => cases b <;> simp [E.rng] at hr
  | cast k a iha => intro l h hs hr; simp only [E.rng] at hr; cases hr; rw [den_cast]; exact wrap_rng _ _
  | ite c a b ihc iha ihb =>
    intro l h hs hr
    simp only [E.rng] at hr
    split at hr
    · rename_i l1 h1 l2 h2 ha hb
      cases hr
      have := iha _ _ hs.2.1 ha
      have := ihb _ _ hs.2.2 hb
      rw [den_ite]
      split <;> omega
    · cases hr
  | tt b => intro l h hs hr; simp [E.rng] at hr
  | bvar i => intro l h hs hr; simp [E.rng] at hr
  | cmp op a b iha ihb => intro l h hs hr; simp [E.rng] at hr
  | no a iha => intro l h hs hr; simp [E.rng] at hr
theorem E.known_ok {V : Env} {d : Nat → Prop} {c : E} {b : Bool} (hs : c.sc V d) (h : c.known = some b) : c.tr V = b := by
  unfold E.known at h
  split at h
  · cases h; rfl
  · rename_i op x y
    split at h
    · rename_i l1 h1 l2 h2 hx hy
      have rx := E.rng_ok V d x _ _ hs.1 hx
      have ry := E.rng_ok V d y _ _ hs.2 hy
      rw [tr_cmp]
      cases op <;> simp only at h <;> (repeat' split at h) <;> (first | (cases h; done) | skip) <;> cases h <;> simp [cmpD] <;> omega
    · cases h
  · cases h
theorem T.iff_holds {α : Type} {Φ : Env → α → Prop} {V : Env} {d : Nat → Prop} {c : E} {t e : Unit → T α} (hs : c.sc V d) (h : (T.iff c t e).holds Φ V) : (c.tr V = true → (t ()).holds Φ V) ∧ (c.tr V = false → (e ()).holds Φ V) := by
  unfold T.iff at h
  split at h
  · rename_i hk
    have := E.known_ok hs hk
    exact ⟨fun _ => h, fun e => by rw [this] at e; cases e⟩
  · rename_i hk
    have := E.known_ok hs hk
    exact ⟨(fun e => by rw [this] at e; cases e), fun _ => h⟩
  · exact h
/-! ### expressions made simpler -/
def fits (k : IntKind) (r : Option (Int × Int)) : Bool :=
  match r with
  | some (l, h) => decide (kLo k ≤ l) && decide (h ≤ kHi k)
  | none => false
theorem fits_ok {k : IntKind} {e : E} (h : fits k e.rng = true) {V : Env} {d : Nat → Prop} (hs : e.sc V d) : k.wrap (e.den V) = e.den V := by
  unfold fits at h
  split at h
  · rename_i l h1 he
    simp at h
    have := E.rng_ok V d e _ _ hs he
    exact wrap_in k _ (by omega) (by omega)
  · cases h
def pos? (e : E) : Bool := match e.rng with | some (l, _) => decide (0 ≤ l) | none => false
theorem pos_ok {e : E} (h : pos? e = true) {V : Env} {d : Nat → Prop} (hs : e.sc V d) : 0 ≤ e.den V := by
  unfold pos? at h
  split at h
  · rename_i l h1 he
    simp at h
    have := E.rng_ok V d e _ _ hs he
    omega
  · cases h
def mkBin (op : BinOp) (k : IntKind) (a b : E) : E :=
  match a, b with
  | .lit x, .lit y => .lit (binD op k x y)
  | a, b =>
    match op with
    | .add => if fits k (E.pl .add a b).rng then .pl .add a b else .bin .add k a b
    | .sub => if fits k (E.pl .sub a b).rng then .pl .sub a b else .bin .sub k a b
    | .rem => if pos? a then match b with | .lit n => if 0 < n then .pl .rem a b else .bin .rem k a b | _ => .bin .rem k a b else .bin .rem k a b
    | .quo => if pos? a && fits k a.rng then match b with | .lit n => if 0 < n then .pl .quo a b else .bin .quo k a b | _ => .bin .quo k a b else .bin .quo k a b
    | op => .bin op k a b
theorem mkBin_ok (op : BinOp) (k : IntKind) {a b : E} {V : Env} {d : Nat → Prop} (ha : a.sc V d) (hb : b.sc V d) : (mkBin op k a b).sc V d ∧ (mkBin op k a b).den V = binD op k (a.den V) (b.den V) := by
  unfold mkBin
  split
  · exact ⟨trivial, rfl⟩
  · rename_i hnl
    split
    · split
      · rename_i hf
        have e := fits_ok hf (V := V) (d := d) ⟨ha, hb⟩
        refine ⟨⟨ha, hb⟩, ?_⟩
        rw [den_pl] at *
        simp only [plD, binD] at *
        exact e.symm
      · exact ⟨⟨ha, hb⟩, rfl⟩
    · split
      · rename_i hf
        have e := fits_ok hf (V := V) (d := d) ⟨ha, hb⟩
        refine ⟨⟨ha, hb⟩, ?_⟩
        rw [den_pl] at *
        simp only [plD, binD] at *
        exact e.symm
      · exact ⟨⟨ha, hb⟩, rfl⟩
    · split
      · rename_i hp
        split
        · split
          · refine ⟨⟨ha, hb⟩, ?_⟩
            rw [den_pl]
            simp only [plD, binD]
            exact (Int.tmod_eq_emod_of_nonneg (pos_ok hp ha)).symm
          · exact ⟨⟨ha, hb⟩, rfl⟩
        · exact ⟨⟨ha, hb⟩, rfl⟩
      · exact ⟨⟨ha, hb⟩, rfl⟩
    · split
      · rename_i hp
        simp only [Bool.and_eq_true] at hp
        split
        · split
          · rename_i n hn
            refine ⟨⟨ha, hb⟩, ?_⟩
            rw [den_pl]
            simp only [plD, binD, den_lit]
            have h0 := pos_ok hp.1 ha
            rw [Int.tdiv_eq_ediv_of_nonneg h0]
            have e := fits_ok hp.2 ha
            have h1 : a.den V / n ≤ a.den V := Int.ediv_le_self _ h0
            have h2 : 0 ≤ a.den V / n := Int.ediv_nonneg h0 (by omega)
            have r := wrap_rng k (a.den V)
            rw [e] at r
            exact (wrap_in k _ (by have : kLo k ≤ 0 := by cases k <;> decide
                                   omega) (by omega)).symm
          · exact ⟨⟨ha, hb⟩, rfl⟩
        · exact ⟨⟨ha, hb⟩, rfl⟩
      · exact ⟨⟨ha, hb⟩, rfl⟩
    · exact ⟨⟨ha, hb⟩, rfl⟩
def mkCast (k : IntKind) (a : E) : E :=
  match a with
  | .lit n => .lit (k.wrap n)
  | a => if fits k a.rng then a else .cast k a
theorem mkCast_ok (k : IntKind) {a : E} {V : Env} {d : Nat → Prop} (ha : a.sc V d) : (mkCast k a).sc V d ∧ (mkCast k a).den V = k.wrap (a.den V) := by
  unfold mkCast
  split
  · exact ⟨trivial, rfl⟩
  · split
    · rename_i hf; exact ⟨ha, (fits_ok hf ha).symm⟩
    · exact ⟨ha, rfl⟩
/-- numbers of the text, quickly -/
def litLt : Int → Int → Bool
  | .ofNat a, .ofNat b => Nat.blt a b
  | .negSucc _, .ofNat _ => true
  | .ofNat _, .negSucc _ => false
  | .negSucc a, .negSucc b => Nat.blt b a
def litEq : Int → Int → Bool
  | .ofNat a, .ofNat b => Nat.beq a b
  | .negSucc a, .negSucc b => Nat.beq a b
  | _, _ => false
theorem litLt_iff : ∀ {x y : Int}, litLt x y = true ↔ x < y
  | .ofNat a, .ofNat b => by simp only [litLt, Nat.blt_eq, Int.ofNat_eq_natCast]; omega
  | .negSucc a, .ofNat b => ⟨fun _ => Int.lt_of_lt_of_le (Int.negSucc_lt_zero a) (Int.natCast_nonneg b), fun _ => rfl⟩
  | .ofNat a, .negSucc b => ⟨fun h => (nomatch h), fun h => absurd (Int.lt_trans h (Int.negSucc_lt_zero b)) (Int.not_lt.2 (Int.natCast_nonneg a))⟩
  | .negSucc a, .negSucc b => by
    have e1 := Int.negSucc_eq a
    have e2 := Int.negSucc_eq b
    simp only [litLt, Nat.blt_eq]
    omega
theorem litEq_iff : ∀ {x y : Int}, litEq x y = true ↔ x = y
  | .ofNat a, .ofNat b => ⟨fun h => by rw [Nat.eq_of_beq_eq_true h], fun h => by cases h; exact Nat.beq_refl a⟩
  | .negSucc a, .ofNat b => ⟨fun h => (nomatch h), fun h => (nomatch h)⟩
  | .ofNat a, .negSucc b => ⟨fun h => (nomatch h), fun h => (nomatch h)⟩
  | .negSucc a, .negSucc b => ⟨fun h => by rw [Nat.eq_of_beq_eq_true h], fun h => by cases h; exact Nat.beq_refl a⟩
def cmpF (op : BinOp) (x y : Int) : Bool :=
  match op with
  | .eql => litEq x y
  | .neq => !litEq x y
  | .lss => litLt x y
  | .leq => !litLt y x
  | .gtr => litLt y x
  | .geq => !litLt x y
  | _ => false
theorem cmpF_eq (op : BinOp) (x y : Int) : cmpF op x y = cmpD op x y := by
  have hl : ∀ x y : Int, litLt x y = decide (x < y) := fun x y => by rw [Bool.eq_iff_iff, litLt_iff, decide_eq_true_eq]
  have he : ∀ x y : Int, litEq x y = (x == y) := fun x y => by rw [Bool.eq_iff_iff, litEq_iff, beq_iff_eq]
  cases op <;> simp only [cmpF, cmpD, hl, he, bne]
  · rw [Bool.eq_iff_iff]; simp
  · rw [Bool.eq_iff_iff]; simp
def mkCmp (op : BinOp) (a b : E) : E :=
  match a, b with
  | .lit x, .lit y => .tt (cmpF op x y)
  | a, b => match (E.cmp op a b).known with
    | some t => .tt t
    | none => .cmp op a b
theorem mkCmp_ok (op : BinOp) {a b : E} {V : Env} {d : Nat → Prop} (ha : a.sc V d) (hb : b.sc V d) : (mkCmp op a b).sc V d ∧ (mkCmp op a b).tr V = cmpD op (a.den V) (b.den V) := by
  unfold mkCmp
  split
  · exact ⟨trivial, by rw [tr_tt, cmpF_eq, den_lit, den_lit]⟩
  · split
    · rename_i t hk
      exact ⟨trivial, (E.known_ok (c := .cmp op a b) ⟨ha, hb⟩ hk).symm⟩
    · exact ⟨⟨ha, hb⟩, rfl⟩
def noOp : BinOp → Option BinOp
  | .eql => some .neq | .neq => some .eql | .lss => some .geq | .geq => some .lss | .gtr => some .leq | .leq => some .gtr
  | _ => none
theorem noOp_ok {op op' : BinOp} (h : noOp op = some op') (x y : Int) : cmpD op' x y = !cmpD op x y := by
  cases op <;> simp [noOp] at h <;> subst h <;> simp [cmpD] <;> first | omega | (rw [Bool.eq_iff_iff]; simp; try omega) | skip
def mkNo (a : E) : E :=
  match a with
  | .tt b => .tt !b
  | .no a => a
  | .cmp op x y => match noOp op with | some op' => .cmp op' x y | none => .no (.cmp op x y)
  | a => .no a
theorem mkNo_ok {a : E} {V : Env} {d : Nat → Prop} (ha : a.sc V d) : (mkNo a).sc V d ∧ (mkNo a).tr V = !(a.tr V) := by
  unfold mkNo
  split
  · exact ⟨trivial, rfl⟩
  · exact ⟨ha, by rw [tr_no]; simp⟩
  · split
    · rename_i op' ho
      exact ⟨ha, by rw [tr_cmp, tr_cmp]; exact noOp_ok ho _ _⟩
    · exact ⟨ha, rfl⟩
  · exact ⟨ha, rfl⟩
/-- of two bools or ints: as a test says -/
def mkIte (c a b : E) : E :=
  match c.known with
  | some true => a
  | some false => b
  | none => if a = b then a else
    match a, b with
    | .tt true, .tt false => c
    | .tt false, .tt true => mkNo c
    | a, b => .ite c a b
theorem mkIte_ok {c a b : E} {V : Env} {d : Nat → Prop} (hc : c.sc V d) (ha : a.sc V d) (hb : b.sc V d) :
    (mkIte c a b).sc V d ∧ (mkIte c a b).tr V = (if c.tr V then a.tr V else b.tr V) := by
  unfold mkIte
  split
  · rename_i hk; rw [E.known_ok hc hk]; exact ⟨ha, rfl⟩
  · rename_i hk; rw [E.known_ok hc hk]; exact ⟨hb, rfl⟩
  · split
    · rename_i e; subst e; exact ⟨ha, by split <;> rfl⟩
    · split
      · exact ⟨hc, by rw [tr_tt, tr_tt]; split <;> simp [*]⟩
      · obtain ⟨h1, h2⟩ := mkNo_ok hc
        exact ⟨h1, by rw [h2, tr_tt, tr_tt]; split <;> simp [*]⟩
      · exact ⟨⟨hc, ha, hb⟩, tr_ite V c a b⟩
/-- of two ints -/
def mkIteI (c a b : E) : E :=
  match c.known with
  | some true => a
  | some false => b
  | none => if a = b then a else .ite c a b
theorem mkIteI_ok {c a b : E} {V : Env} {d : Nat → Prop} (hc : c.sc V d) (ha : a.sc V d) (hb : b.sc V d) :
    (mkIteI c a b).sc V d ∧ (mkIteI c a b).den V = (if c.tr V then a.den V else b.den V) := by
  unfold mkIteI
  split
  · rename_i hk; rw [E.known_ok hc hk]; exact ⟨ha, rfl⟩
  · rename_i hk; rw [E.known_ok hc hk]; exact ⟨hb, rfl⟩
  · split
    · rename_i e; subst e; exact ⟨ha, by split <;> rfl⟩
    · exact ⟨⟨hc, ha, hb⟩, den_ite V c a b⟩
end
end Go.Proofs.YtkhammleijbpeaaGreat.Sx
end
section
set_option linter.unusedVariables false
set_option linter.unusedSimpArgs false
namespace Go.Proofs.YtkhammleijbpeaaGreat.Sx
open Go
noncomputable section
section
variable {P : Program} {C : Ctx} {hp : Hp} {w : World}
theorem rel_int {k : IntKind} {e : E} (h : e.sc C.V C.vd) : SV.rel C (.sc (.int k e)) (.int k (e.den C.V)) := ⟨h, rfl⟩
theorem rel_bool {e : E} (h : e.sc C.V C.vd) : SV.rel C (.sc (.bool e)) (.bool (e.tr C.V)) := ⟨h, rfl⟩
theorem Out.int {s : Sem Value} {k : IntKind} {e : E} {n : Int} (h : HRel C hp w) (hs : s.run P w = .ok (.int k n) w) (he : e.sc C.V C.vd ∧ e.den C.V = n) : Out P C w s (.ret (.sc (.int k e), hp)) :=
  Out.pure h hs (by rw [← he.2]; exact rel_int he.1)
theorem Out.bool {s : Sem Value} {e : E} {b : Bool} (h : HRel C hp w) (hs : s.run P w = .ok (.bool b) w) (he : e.sc C.V C.vd ∧ e.tr C.V = b) : Out P C w s (.ret (.sc (.bool e), hp)) :=
  Out.pure h hs (by rw [← he.2]; exact rel_bool he.1)
theorem Out.iff {s : Sem Value} {c : E} {t e : Unit → XR} (hc : c.sc C.V C.vd) (h1 : c.tr C.V = true → Out P C w s (t ())) (h2 : c.tr C.V = false → Out P C w s (e ())) : Out P C w s (T.iff c t e) := by
  intro Φ hx
  have := T.iff_holds hc hx
  cases hb : c.tr C.V with
  | true => exact h1 hb Φ (this.1 hb)
  | false => exact h2 hb Φ (this.2 hb)
/-! ### operators on ints -/
def isCmp : BinOp → Bool
  | .eql | .neq | .lss | .leq | .gtr | .geq => true
  | _ => false
def xbinI (op : BinOp) (k : IntKind) (a : E) (k' : IntKind) (b : E) (hp : Hp) : XR :=
  match op with
  | .shl | .shr => T.iff (mkCmp .lss b (.lit 0)) (fun _ => .bad "shift") (fun _ => .ret (.sc (.int k (mkBin op k a b)), hp))
  | .quo | .rem => if k = k' then T.iff (mkCmp .eql b (.lit 0)) (fun _ => .bad "division") (fun _ => .ret (.sc (.int k (mkBin op k a b)), hp)) else .bad "kinds"
  | .add | .sub | .mul | .and | .or | .xor | .andNot => if k = k' then .ret (.sc (.int k (mkBin op k a b)), hp) else .bad "kinds"
  | .eql | .neq | .lss | .leq | .gtr | .geq => if k = k' then .ret (.sc (.bool (mkCmp op a b)), hp) else .bad "kinds"
theorem xbinI_ok (h : HRel C hp w) (op : BinOp) (k : IntKind) {a : E} (k' : IntKind) {b : E} (t : TypeId) (ha : a.sc C.V C.vd) (hb : b.sc C.V C.vd) :
    Out P C w (binOp op t (.int k (a.den C.V)) (.int k' (b.den C.V))) (xbinI op k a k' b hp) := by
  have sh : ∀ op, (op = .shl ∨ op = .shr) → (mkCmp .lss b (.lit 0)).tr C.V = false → Out P C w (binOp op t (.int k (a.den C.V)) (.int k' (b.den C.V))) (.ret (.sc (.int k (mkBin op k a b)), hp)) := fun op ho hc => by
    have h0 : ¬ b.den C.V < 0 := by
      rw [(mkCmp_ok .lss hb (b := .lit 0) (d := C.vd) trivial).2, den_lit] at hc
      simpa [cmpD] using hc
    refine Out.int h ?_ (mkBin_ok op k ha hb)
    rcases ho with rfl | rfl
    · rw [binOp_shl]; simp [Op.shift, h0, binD]
    · rw [binOp_shr]; simp [Op.shift, h0, binD]
  have dv : ∀ op, (op = .quo ∨ op = .rem) → k = k' → (mkCmp .eql b (.lit 0)).tr C.V = false → Out P C w (binOp op t (.int k (a.den C.V)) (.int k' (b.den C.V))) (.ret (.sc (.int k (mkBin op k a b)), hp)) := fun op ho hk hc => by
    subst hk
    have h0 : ¬ b.den C.V = 0 := by
      rw [(mkCmp_ok .eql hb (b := .lit 0) (d := C.vd) trivial).2, den_lit] at hc
      simpa [cmpD] using hc
    refine Out.int h ?_ (mkBin_ok op k ha hb)
    rcases ho with rfl | rfl
    · rw [binOp_quo]; simp [Op.intDiv, h0, binD]
    · rw [binOp_rem]; simp [Op.intDiv, h0, binD]
  unfold xbinI
  cases op <;> simp only
  case shl => exact Out.iff (mkCmp_ok .lss hb (b := .lit 0) trivial).1 (fun _ => Out.bad) (sh .shl (.inl rfl))
  case shr => exact Out.iff (mkCmp_ok .lss hb (b := .lit 0) trivial).1 (fun _ => Out.bad) (sh .shr (.inr rfl))
  case quo =>
    split
    · rename_i hk; exact Out.iff (mkCmp_ok .eql hb (b := .lit 0) trivial).1 (fun _ => Out.bad) (dv .quo (.inl rfl) hk)
    · exact Out.bad
  case rem =>
    split
    · rename_i hk; exact Out.iff (mkCmp_ok .eql hb (b := .lit 0) trivial).1 (fun _ => Out.bad) (dv .rem (.inr rfl) hk)
    · exact Out.bad
  case add => split; (· rename_i hk; subst hk; refine Out.int h ?_ (mkBin_ok _ k ha hb); rw [binOp_add]; rfl); exact Out.bad
  case sub => split; (· rename_i hk; subst hk; refine Out.int h ?_ (mkBin_ok _ k ha hb); rw [binOp_sub]; rfl); exact Out.bad
  case mul => split; (· rename_i hk; subst hk; refine Out.int h ?_ (mkBin_ok _ k ha hb); rw [binOp_mul]; rfl); exact Out.bad
  case and => split; (· rename_i hk; subst hk; refine Out.int h ?_ (mkBin_ok _ k ha hb); rw [binOp_and]; rfl); exact Out.bad
  case or => split; (· rename_i hk; subst hk; refine Out.int h ?_ (mkBin_ok _ k ha hb); rw [binOp_or]; rfl); exact Out.bad
  case xor => split; (· rename_i hk; subst hk; refine Out.int h ?_ (mkBin_ok _ k ha hb); rw [binOp_xor]; rfl); exact Out.bad
  case andNot => split; (· rename_i hk; subst hk; refine Out.int h ?_ (mkBin_ok _ k ha hb); rw [binOp_andNot]; rfl); exact Out.bad
  case eql => split; (· rename_i hk; subst hk; refine Out.bool h ?_ (mkCmp_ok _ ha hb); rw [binOp_eql]; rfl); exact Out.bad
  case neq => split; (· rename_i hk; subst hk; refine Out.bool h ?_ (mkCmp_ok _ ha hb); rw [binOp_neq]; rfl); exact Out.bad
  case lss => split; (· rename_i hk; subst hk; refine Out.bool h ?_ (mkCmp_ok _ ha hb); rw [binOp_lss]; rfl); exact Out.bad
  case leq => split; (· rename_i hk; subst hk; refine Out.bool h ?_ (mkCmp_ok _ ha hb); rw [binOp_leq]; rfl); exact Out.bad
  case gtr => split; (· rename_i hk; subst hk; refine Out.bool h ?_ (mkCmp_ok _ ha hb); rw [binOp_gtr]; rfl); exact Out.bad
  case geq => split; (· rename_i hk; subst hk; refine Out.bool h ?_ (mkCmp_ok _ ha hb); rw [binOp_geq]; rfl); exact Out.bad
/-! ### equality -/
/-- are both alike? none: not told -/
def xeqC (P : Program) (hs : Hs) (t : TypeId) (x y : SC) : Option E :=
  match x, y, P.underlying t with
  | .int k a, .int k' b, some (.int _) => if k = k' then some (mkCmp .eql a b) else none
  | .bool a, .bool b, some .bool => some (mkIte a b (mkNo b))
  | .str a, .str b, some .string => some (.tt (a == b))
  | .nilp, .nilp, some (.pointer _) => some (.tt true)
  | .nilp, .ptr _ _, some (.pointer _) => some (.tt false)
  | .ptr _ _, .nilp, some (.pointer _) => some (.tt false)
  | .nils, .nils, some (.slice _) => some (.tt true)
  | .nils, .slice _ _ _ _ _, some (.slice _) => some (.tt false)
  | .slice _ _ _ _ _, .nils, some (.slice _) => some (.tt false)
  | .nilm, .nilm, some (.map _ _) => some (.tt true)
  | .nilm, .map _, some (.map _ _) => some (.tt false)
  | .map _, .nilm, some (.map _ _) => some (.tt false)
  | .nilFunc, .nilFunc, some (.func _ _ _) => some (.tt true)
  | .nilFunc, .fn _ _ _, some (.func _ _ _) => some (.tt false)
  | .fn _ _ _, .nilFunc, some (.func _ _ _) => some (.tt false)
  | .nilIface, .nilIface, some (.interface _) => some (.tt true)
  | .nilIface, .iface _ _, some (.interface _) => some (.tt false)
  | .iface _ _, .nilIface, some (.interface _) => some (.tt false)
  | .ptr b o, .ptr b' o', some (.pointer e) =>
    match P.info? e, hget hs b, hget hs b' with
    | some i, some (.cells _ _ _ _), some (.cells _ _ _ _) => if i.size ≠ 0 then some (.tt (b == b' && o == o')) else none
    | _, _, _ => none
  | _, _, _ => none
theorem same_addr {g g' o o' : Nat} {cs cs' : Array Value} {T T' : TypeId} (h1 : w.heap[g]? = some (.cells cs T (0, 0))) (h2 : w.heap[g']? = some (.cells cs' T' (0, 0))) :
    (sameAddr ⟨g, o, none⟩ ⟨g', o', none⟩).run P w = .ok (decide (g = g' ∧ o = o')) w := by
  have f1 : ∀ o, w.frozen? ⟨g, o, none⟩ = false := fun o => by simp [World.frozen?, h1]
  have f2 : ∀ o, w.frozen? ⟨g', o, none⟩ = false := fun o => by simp [World.frozen?, h2]
  have s1 : w.shape? g = some (T, cs.size) := by simp [World.shape?, h1]
  have s2 : w.shape? g' = some (T', cs'.size) := by simp [World.shape?, h2]
  by_cases hg : g = g'
  · subst hg
    by_cases ho : o = o'
    · subst ho; simp [sameAddr]
    · have : ((⟨g, o, none⟩ : Addr) == ⟨g, o', none⟩) = false := by simp [ho]
      simp [sameAddr, ho]
  · simp [sameAddr, hg, f1, f2, noView, viewAt, s1, s2, mayBeOne, stringish]
theorem xeqC_ok {hs : Hs} (h : HCore C hs w) {t : TypeId} {x y : SC} {e : E} (he : xeqC P hs t x y = some e) {u v : Value} (hu : x.rel C u) (hv : y.rel C v) (d : Nat) :
    e.sc C.V C.vd ∧ (Op.equalIn (d + 1) t u v).run P w = .ok (e.tr C.V) w := by
  unfold xeqC at he
  split at he
  · rename_i k a k' b k2 ht
    split at he
    · rename_i hk; subst hk; cases he
      obtain ⟨h1, rfl⟩ := hu
      obtain ⟨h2, rfl⟩ := hv
      obtain ⟨k1, k3⟩ := mkCmp_ok .eql h1 h2
      exact ⟨k1, by rw [k3, run_equalIn_int w d t _ _ _ _ ht]; rfl⟩
    · cases he
  · rename_i a b ht
    cases he
    obtain ⟨h1, rfl⟩ := hu
    obtain ⟨h2, rfl⟩ := hv
    obtain ⟨n1, n2⟩ := mkNo_ok h2
    obtain ⟨k1, k3⟩ := mkIte_ok h1 h2 n1
    refine ⟨k1, ?_⟩
    rw [k3, n2, run_equalIn_bool' w d t _ _ ht]
    cases a.tr C.V <;> cases b.tr C.V <;> rfl
  · rename_i a b ht
    cases he
    simp only [SC.rel] at hu hv; subst hu; subst hv
    refine ⟨trivial, ?_⟩
    rw [run_equalIn_string w d t _ _ ht, tr_tt, beq_toListBytes]
  all_goals first
    | (rename_i ht; cases he; simp only [SC.rel] at hu hv; subst hu; subst hv; exact ⟨trivial, by simp [Op.equalIn, run_underlying ht, tr_tt]⟩)
    | (rename_i ht; cases he; simp only [SC.rel] at hu hv; obtain ⟨_, _, _, rfl⟩ := hu; subst hv; exact ⟨trivial, by simp [Op.equalIn, run_underlying ht, tr_tt]⟩)
    | (rename_i ht; cases he; simp only [SC.rel] at hu hv; obtain ⟨_, _, _, rfl⟩ := hv; subst hu; exact ⟨trivial, by simp [Op.equalIn, run_underlying ht, tr_tt]⟩)
    | (rename_i ht; cases he; simp only [SC.rel] at hu hv; obtain ⟨_, _, _, rfl, _⟩ := hu; subst hv; exact ⟨trivial, by simp [Op.equalIn, run_underlying ht, tr_tt]⟩)
    | (rename_i ht; cases he; simp only [SC.rel] at hu hv; obtain ⟨_, _, _, rfl, _⟩ := hv; subst hu; exact ⟨trivial, by simp [Op.equalIn, run_underlying ht, tr_tt]⟩)
    | (rename_i ht; cases he; simp only [SC.rel] at hu hv; obtain ⟨_, _, _, _, rfl⟩ := hu; subst hv; exact ⟨trivial, by simp [Op.equalIn, run_underlying ht, tr_tt]⟩)
    | (rename_i ht; cases he; simp only [SC.rel] at hu hv; obtain ⟨_, _, _, _, rfl⟩ := hv; subst hu; exact ⟨trivial, by simp [Op.equalIn, run_underlying ht, tr_tt]⟩)
    | (rename_i ht; cases he; simp only [SC.rel] at hu hv; obtain ⟨_, _, rfl⟩ := hu; subst hv; exact ⟨trivial, by simp [Op.equalIn, run_underlying ht, tr_tt]⟩)
    | (rename_i ht; cases he; simp only [SC.rel] at hu hv; obtain ⟨_, _, rfl⟩ := hv; subst hu; exact ⟨trivial, by simp [Op.equalIn, run_underlying ht, tr_tt]⟩)
    | skip
  · rename_i b o b' o' el ht
    split at he
    · rename_i i r1 T1 s1 l1 r2 T2 s2 l2 hi hb hb'
      split at he
      · rename_i hs
        cases he
        obtain ⟨g, c, k1, rfl⟩ := hu
        obtain ⟨g', c', k2, rfl⟩ := hv
        obtain ⟨q, cq, m1, ⟨vs, sp, _, m2, _⟩⟩ := h.at_ _ _ hb
        obtain ⟨q', cq', m1', ⟨vs', sp', _, m2', _⟩⟩ := h.at_ _ _ hb'
        rw [k1] at m1; cases m1
        rw [k2] at m1'; cases m1'
        refine ⟨trivial, ?_⟩
        have hgg : (g = g') ↔ (b = b') := ⟨fun e => h.inj b b' _ _ g c c' hb hb' k1 (e ▸ k2), fun e => by subst e; rw [k1] at k2; cases k2; rfl⟩
        simp only [Op.equalIn, Sem.run_bind, run_underlying ht, Result.andThen_ok, run_size hi, ne_eq, hs, not_false_eq_true, if_true, tr_tt, Sem.run_ite]
        rw [same_addr m2 m2']
        congr 1
        rw [Bool.eq_iff_iff]
        simp [hgg]
      · cases he
    · cases he
  · cases he
end
end
end Go.Proofs.YtkhammleijbpeaaGreat.Sx
end
section
set_option linter.unusedVariables false
set_option linter.unusedSimpArgs false
namespace Go.Proofs.YtkhammleijbpeaaGreat.Sx
open Go
noncomputable section
section
variable {P : Program} {C : Ctx} {hp : Hp} {w : World}
theorem xpart_ok {t : TypeId} {row : List SC} {o : Nat} {p : PV} (h : xread P t row o = some p) {vs : List Value} (hv : All2 (SC.rel C) row vs) : ∃ v, (∀ w, (part t vs.toArray o).run P w = .ok v w) ∧ p.rel C v := by
  unfold xread at h
  split at h
  · rename_i ha
    split at h
    · rename_i n hn
      split at h
      · cases h
        refine ⟨.agg ((vs.drop o).take n).toArray, fun w => ?_, _, (hv.drop o).take n, rfl⟩
        simp [part, xagg_ok ha, xsize_ok hn, List.extract_eq_take_drop]
      · cases h
    · cases h
  · rename_i ha
    split at h
    · rename_i c hc
      cases h
      obtain ⟨v, hv1, hv2⟩ := hv.get _ _ hc
      refine ⟨v, fun w => ?_, hv2⟩
      simp [part, xagg_ok ha, hv1]
    · cases h
  · cases h
def xand (a b : Option E) : Option E :=
  match a, b with
  | some a, some b => some (mkIte a b (.tt false))
  | _, _ => none
def xall : List (Option E) → Option E
  | [] => some (.tt true)
  | x :: xs => xand x (xall xs)
def xeqParts (P : Program) (eq : TypeId → PV → PV → Option E) (t : TypeId) (xs ys : List SC) (o : Nat) : Option E :=
  match xread P t xs o, xread P t ys o with
  | some a, some b => eq t a b
  | _, _ => none
def xeqP (P : Program) (hs : Hs) : Nat → TypeId → PV → PV → Option E
  | 0, _, _, _ => none
  | n + 1, t, p, q =>
    match p, q with
    | .one x, .one y => xeqC P hs t x y
    | .agg xs, .agg ys =>
      match P.underlying t with
      | some (.struct fs) => if P.stoodInHeld t then none else xall (fs.toList.map fun f => if f.name ≠ "_" then xeqParts P (xeqP P hs n) f.type xs ys f.offset else some (.tt true))
      | some (.array len e) => match xsize P e with
        | some s => xall ((List.range len).map fun i => xeqParts P (xeqP P hs n) e xs ys (i * s))
        | none => none
      | _ => none
    | _, _ => none
theorem xand_ok {a b : Option E} {e : E} (h : xand a b = some e) : ∃ x y, a = some x ∧ b = some y ∧ (x.sc C.V C.vd → y.sc C.V C.vd → e.sc C.V C.vd ∧ e.tr C.V = (x.tr C.V && y.tr C.V)) := by
  unfold xand at h
  split at h
  · rename_i x y
    cases h
    refine ⟨x, y, rfl, rfl, fun hx hy => ?_⟩
    obtain ⟨k1, k2⟩ := mkIte_ok hx hy (b := .tt false) trivial
    refine ⟨k1, ?_⟩
    rw [k2, tr_tt]
    cases x.tr C.V <;> rfl
  · cases h
theorem xeqP_ok {hs : Hs} (h : HCore C hs w) : ∀ (n : Nat) {t : TypeId} {p q : PV} {e : E}, xeqP P hs n t p q = some e → ∀ {u v : Value}, p.rel C u → q.rel C v → ∀ d, n ≤ d →
    e.sc C.V C.vd ∧ (Op.equalIn d t u v).run P w = .ok (e.tr C.V) w := by
  intro n
  induction n with
  | zero => intro t p q e he; simp [xeqP] at he
  | succ n ih =>
    intro t p q e he u v hu hv d hd
    obtain ⟨d, rfl⟩ : ∃ d', d = d' + 1 := ⟨d - 1, by omega⟩
    have parts : ∀ {t : TypeId} {xs ys : List SC} {us vs : List Value} {o : Nat} {e : E}, All2 (SC.rel C) xs us → All2 (SC.rel C) ys vs → xeqParts P (xeqP P hs n) t xs ys o = some e →
        e.sc C.V C.vd ∧ ∃ a b, (∀ w, (part t us.toArray o).run P w = .ok a w) ∧ (∀ w, (part t vs.toArray o).run P w = .ok b w) ∧ (Op.equalIn d t a b).run P w = .ok (e.tr C.V) w := by
      intro t xs ys us vs o e hx hy he
      unfold xeqParts at he
      split at he
      · rename_i a b ha hb
        obtain ⟨a', h1, h2⟩ := xpart_ok ha hx
        obtain ⟨b', h3, h4⟩ := xpart_ok hb hy
        obtain ⟨k1, k2⟩ := ih he h2 h4 d (by omega)
        exact ⟨k1, a', b', h1, h3, k2⟩
      · cases he
    unfold xeqP at he
    split at he
    · exact xeqC_ok h he hu hv d
    · rename_i xs ys
      obtain ⟨us, hus, rfl⟩ := hu
      obtain ⟨vs, hvs, rfl⟩ := hv
      split at he
      · rename_i fs ht
        split at he
        · cases he
        · rename_i hst
          have hf : P.fieldsOf t = fs := by simp [Program.fieldsOf, ht]
          rw [run_equalIn_struct w d t _ _ (by rw [hf]; exact ht) (by simpa using hst), hf]
          clear ht hf hst
          generalize fs.toList = l at he
          induction l generalizing e with
          | nil => simp only [List.map_nil, xall, Option.some.injEq] at he; subst he; exact ⟨trivial, rfl⟩
          | cons f l ihl =>
            simp only [List.map_cons, xall] at he
            obtain ⟨x, y, hx, hy, hk⟩ := xand_ok (C := C) he
            obtain ⟨y1, y2⟩ := ihl hy
            split at hx
            · rename_i hn
              obtain ⟨x1, a, b, p1, p2, p3⟩ := parts hus hvs hx
              obtain ⟨k1, k2⟩ := hk x1 y1
              refine ⟨k1, ?_⟩
              simp only [Op.eqFields, if_pos hn, Sem.run_bind, p1, p2, p3, Result.andThen_ok, k2, Sem.run_ite]
              cases hb : x.tr C.V
              · simp
              · simp [y2]
            · rename_i hn
              cases hx
              obtain ⟨k1, k2⟩ := hk trivial y1
              refine ⟨k1, ?_⟩
              simp only [Op.eqFields, if_neg hn, y2, k2, tr_tt, Bool.true_and]
      · rename_i len el ht
        split at he
        · rename_i s hs
          rw [List.range_eq_range'] at he
          simp only [Op.equalIn, Sem.run_bind, run_underlying ht, Result.andThen_ok, xsize_ok hs, Std.Legacy.Range.forIn_eq_forIn_range', Std.Legacy.Range.size, Nat.sub_zero, Nat.add_sub_cancel, Nat.div_one]
          clear ht
          generalize List.range' 0 len 1 = l at he ⊢
          induction l generalizing e with
          | nil => simp only [List.map_nil, xall, Option.some.injEq] at he; subst he; exact ⟨trivial, by simp [tr_tt]⟩
          | cons i l ihl =>
            simp only [List.map_cons, xall] at he
            obtain ⟨x, y, hx, hy, hk⟩ := xand_ok (C := C) he
            obtain ⟨y1, y2⟩ := ihl hy
            obtain ⟨x1, a, b, p1, p2, p3⟩ := parts hus hvs hx
            obtain ⟨k1, k2⟩ := hk x1 y1
            refine ⟨k1, ?_⟩
            simp only [List.forIn_cons, Sem.run_bind, p1, p2, p3, Result.andThen_ok, k2]
            cases hb : x.tr C.V
            · simp
            · simp only [Bool.not_true, Bool.false_eq_true, if_false, Sem.run_pure, Result.andThen_ok, Bool.true_and]
              exact y2
        · cases he
      · cases he
    · cases he
/-! ### operators -/
def bytesLt : List UInt8 → List UInt8 → Bool := Op.bytesLess
def strD (op : BinOp) (a b : ByteArray) : Option SC :=
  match op with
  | .add => if ((a.size + b.size : Nat) : Int) > 9223372036854775807 then none else some (.str (a ++ b))
  | .eql => some (.bool (.tt (a.toList == b.toList)))
  | .neq => some (.bool (.tt (!(a.toList == b.toList))))
  | .lss => some (.bool (.tt (Op.bytesLess a.toList b.toList)))
  | .leq => some (.bool (.tt (Op.bytesLess a.toList b.toList || a.toList == b.toList)))
  | .gtr => some (.bool (.tt (!(Op.bytesLess a.toList b.toList || a.toList == b.toList))))
  | .geq => some (.bool (.tt (!Op.bytesLess a.toList b.toList)))
  | _ => none
def isNilI : SV → Bool
  | .pv (.one .nilIface) => true
  | _ => false
def isAggV : SV → Bool
  | .pv (.agg _) => true
  | _ => false
def isConst : Operand → Bool
  | .const _ => true
  | _ => false
def xbin (P : Program) (op : BinOp) (t : TypeId) (xo yo : Operand) (x y : SV) (hp : Hp) : XR :=
  match x, y with
  | .pv (.one (.int k a)), .pv (.one (.int k' b)) => xbinI op k a k' b hp
  | .pv (.one (.str a)), .pv (.one (.str b)) => match strD op a b with
    | some c => .ret (.sc c, hp)
    | none => .bad "strings"
  | .pv p, .pv q =>
    if (isNilI x && isNilI y && !isConst xo && !isConst yo) || ((isAggV x || isAggV y) && P.eqGuardType P.depth t) then .bad "eql interfaces" else
    match op, xeqP P hp.H 64 t p q with
    | .eql, some e => .ret (.sc (.bool e), hp)
    | .neq, some e => .ret (.sc (.bool (mkNo e)), hp)
    | _, _ => .bad "no such operator"
  | _, _ => .bad "no such operator"
def numV : Value → Bool
  | .int _ _ => true
  | .float _ _ => true
  | .complex _ _ _ => true
  | .string _ => true
  | _ => false
theorem binOp_eq {t : TypeId} {u v : Value} (h : numV u = false ∨ numV v = false) : binOp .eql t u v = (do pure (.bool (← Op.equal t u v))) ∧ binOp .neq t u v = (do pure (.bool (!(← Op.equal t u v)))) := by
  cases u <;> cases v <;> first | exact ⟨rfl, rfl⟩ | (simp [numV] at h)
theorem eqGuard_pv {op : BinOp} {t : TypeId} {xo yo : Operand} {p q : PV} {u v : Value} (hu : p.rel C u) (hv : q.rel C v) (hpe : ∀ i, p ≠ .one (.ext i)) (hqe : ∀ i, q ≠ .one (.ext i))
    (hg : ¬ ((isNilI (.pv p) && isNilI (.pv q) && !isConst xo && !isConst yo) || ((isAggV (.pv p) || isAggV (.pv q)) && P.eqGuardType P.depth t)) = true) : (eqGuard op t xo yo u v).run P w = .ok () w := by
  have base : (∀ a, u ≠ .agg a ∨ ∀ b, v ≠ .agg b) → (u ≠ .nilIface ∨ v ≠ .nilIface) → (eqGuard op t xo yo u v).run P w = .ok () w := fun h1 h2 => by
    cases op <;> first | rfl | skip
    all_goals
      cases u <;> cases v <;> first | rfl | (exfalso; simp at h1; done) | (exfalso; simp at h2; done)
  cases p with
  | agg xs =>
    obtain ⟨us, _, rfl⟩ := hu
    simp [isAggV, isNilI] at hg
    cases q with
    | agg ys =>
      obtain ⟨vs, _, rfl⟩ := hv
      exact run_eqGuard_agg w op t xo yo _ _ hg
    | one y =>
      refine base (fun a => .inr fun b e => ?_) (.inl (by simp))
      have := SC.rel.cells hv
      subst e
      cases y <;> simp only [PV.rel, SC.rel] at hv <;> first | (cases hv; done) | (obtain ⟨_, hv⟩ := hv; cases hv; done) | (obtain ⟨_, _, _, hv⟩ := hv; cases hv; done) | (obtain ⟨_, _, _, hv, _⟩ := hv; cases hv; done) | (obtain ⟨_, _, _, _, hv⟩ := hv; cases hv; done) | (obtain ⟨_, _, _, _, _, _, hv, _⟩ := hv; cases hv; done) | (obtain ⟨_, _, hv⟩ := hv; cases hv; done) | (have := hv.2.2; simp [Value.oneCell'] at this)
  | one x =>
    have hna : ∀ a, u ≠ .agg a := fun a e => by
      subst e
      cases x <;> simp only [PV.rel, SC.rel] at hu <;> first | (cases hu; done) | (obtain ⟨_, hu⟩ := hu; cases hu; done) | (obtain ⟨_, _, _, hu⟩ := hu; cases hu; done) | (obtain ⟨_, _, _, hu, _⟩ := hu; cases hu; done) | (obtain ⟨_, _, _, _, hu⟩ := hu; cases hu; done) | (obtain ⟨_, _, _, _, _, _, hu, _⟩ := hu; cases hu; done) | (obtain ⟨_, _, hu⟩ := hu; cases hu; done) | (have := hu.2.2; simp [Value.oneCell'] at this)
    by_cases hn : u = .nilIface ∧ v = .nilIface
    · obtain ⟨rfl, rfl⟩ := hn
      cases hx : isConst xo with
      | true => cases xo <;> simp [isConst] at hx; exact congrArg (fun s : Sem Unit => s.run P w) (eqGuard_nil_constL op t yo _ )
      | false =>
        cases hy : isConst yo with
        | true => cases yo <;> simp [isConst] at hy; exact congrArg (fun s : Sem Unit => s.run P w) (eqGuard_nil_constR op t xo _ )
        | false =>
          exfalso
          have h1 : x = .nilIface := by
            cases x <;> simp only [PV.rel, SC.rel] at hu <;> first | rfl | (cases hu; done) | (obtain ⟨_, hu⟩ := hu; cases hu; done) | (obtain ⟨_, _, _, hu⟩ := hu; cases hu; done) | (obtain ⟨_, _, _, hu, _⟩ := hu; cases hu; done) | (obtain ⟨_, _, _, _, hu⟩ := hu; cases hu; done) | (obtain ⟨_, _, _, _, _, _, hu, _⟩ := hu; cases hu; done) | (obtain ⟨_, _, hu⟩ := hu; cases hu; done) | exact absurd rfl (hpe _)
          subst h1
          cases q with
          | agg ys => obtain ⟨_, _, hv⟩ := hv; cases hv
          | one y =>
            have h2 : y = .nilIface := by
              cases y <;> simp only [PV.rel, SC.rel] at hv <;> first | rfl | (cases hv; done) | (obtain ⟨_, hv⟩ := hv; cases hv; done) | (obtain ⟨_, _, _, hv⟩ := hv; cases hv; done) | (obtain ⟨_, _, _, hv, _⟩ := hv; cases hv; done) | (obtain ⟨_, _, _, _, hv⟩ := hv; cases hv; done) | (obtain ⟨_, _, _, _, _, _, hv, _⟩ := hv; cases hv; done) | (obtain ⟨_, _, hv⟩ := hv; cases hv; done) | exact absurd rfl (hqe _)
            subst h2
            simp [isNilI, hx, hy] at hg
    · refine base (fun a => .inl (hna a)) ?_
      by_cases e : u = .nilIface
      · exact .inr fun e2 => hn ⟨e, e2⟩
      · exact .inl e
theorem xeqP_notExt {hs : Hs} {n : Nat} {t : TypeId} {p q : PV} {e : E} (h : xeqP P hs n t p q = some e) : (∀ i, p ≠ .one (.ext i)) ∧ (∀ i, q ≠ .one (.ext i)) := by
  cases n with
  | zero => simp [xeqP] at h
  | succ n =>
    constructor
    · intro i hi; subst hi
      cases q <;> simp [xeqP, xeqC] at h
    · intro i hi; subst hi
      cases p with
      | one x => cases x <;> simp [xeqP, xeqC] at h
      | agg xs => simp [xeqP] at h
theorem xeqP_num {hs : Hs} {n : Nat} {t : TypeId} {p q : PV} {e : E} (h : xeqP P hs n t p q = some e) (hni : ∀ k a k' b, p = .one (.int k a) → q = .one (.int k' b) → False) (hns : ∀ a b, p = .one (.str a) → q = .one (.str b) → False)
    {u v : Value} (hu : p.rel C u) : numV u = false := by
  have hx := (xeqP_notExt h).1
  cases n with
  | zero => simp [xeqP] at h
  | succ n =>
    cases p with
    | agg xs => obtain ⟨_, _, rfl⟩ := hu; rfl
    | one x =>
      cases q with
      | agg ys => simp [xeqP] at h
      | one y =>
        simp only [xeqP] at h
        cases x <;> simp only [PV.rel, SC.rel] at hu
        case int => exfalso; cases y <;> simp [xeqC] at h; exact hni _ _ _ _ rfl rfl
        case str => exfalso; cases y <;> simp [xeqC] at h; exact hns _ _ rfl rfl
        case ext => exact absurd rfl (hx _)
        case xs => obtain ⟨_, _, _, _, _, _, rfl, _⟩ := hu; rfl
        all_goals first
          | (subst hu; rfl)
          | (obtain ⟨_, rfl⟩ := hu; rfl)
          | (obtain ⟨_, _, _, rfl⟩ := hu; rfl)
          | (obtain ⟨_, _, _, rfl, _⟩ := hu; rfl)
          | (obtain ⟨_, _, _, _, rfl⟩ := hu; rfl)
          | (obtain ⟨_, _, rfl⟩ := hu; rfl)
theorem xbin_ok (h : HRel C hp w) (op : BinOp) (t : TypeId) (xo yo : Operand) {x y : SV} {u v : Value} (hu : x.rel C u) (hv : y.rel C v) :
    Out P C w (do eqGuard op t xo yo u v; binOp op t u v) (xbin P op t xo yo x y hp) := by
  unfold xbin
  split
  · rename_i k a k' b
    obtain ⟨h1, rfl⟩ := hu
    obtain ⟨h2, rfl⟩ := hv
    have := xbinI_ok (P := P) h op k k' t h1 h2
    rw [eqGuard_at_int]
    simpa using this
  · rename_i a b
    have hu' : u = .string a := hu
    have hv' : v = .string b := hv
    subst hu'; subst hv'
    split
    · rename_i c hc
      have e : binOp op t (.string a) (.string b) = Op.stringOp op a b := by cases op <;> rfl
      rw [eqGuard_at_string, e]
      unfold strD at hc
      cases op <;> simp only at hc <;> try (cases hc; done)
      case add =>
        split at hc
        · cases hc
        · rename_i hs
          cases hc
          refine Out.pure h (v := .string (a ++ b)) ?_ rfl
          simp only [Op.stringOp, IntKind.max_i64]
          simp
          omega
      all_goals (cases hc; refine Out.bool h ?_ ⟨trivial, rfl⟩; simp [Op.stringOp, tr_tt])
    · exact Out.bad
  · rename_i p q hni hns
    split
    · exact Out.bad
    · rename_i hg
      split
      · rename_i e he
        obtain ⟨e1, e2⟩ := xeqP_notExt he
        obtain ⟨k1, k2⟩ := xeqP_ok (w := w) h.toHCore 64 he hu hv 10000 (by decide)
        have hnum : numV u = false ∨ numV v = false := .inl (xeqP_num he hni hns (v := v) hu)
        refine Out.bool h ?_ ⟨k1, rfl⟩
        rw [Sem.run_bind, eqGuard_pv hu hv e1 e2 hg, (binOp_eq hnum).1]
        simp only [Result.andThen_ok, Sem.run_bind, Op.equal, Op.maxDepth, k2, Sem.run_pure]
      · rename_i e he
        obtain ⟨e1, e2⟩ := xeqP_notExt he
        obtain ⟨k1, k2⟩ := xeqP_ok (w := w) h.toHCore 64 he hu hv 10000 (by decide)
        have hnum : numV u = false ∨ numV v = false := .inl (xeqP_num he hni hns (v := v) hu)
        obtain ⟨n1, n2⟩ := mkNo_ok k1
        refine Out.bool h ?_ ⟨n1, n2⟩
        rw [Sem.run_bind, eqGuard_pv hu hv e1 e2 hg, (binOp_eq hnum).2]
        simp only [Result.andThen_ok, Sem.run_bind, Op.equal, Op.maxDepth, k2, Sem.run_pure]
      · exact Out.bad
  · exact Out.bad
end
end
end Go.Proofs.YtkhammleijbpeaaGreat.Sx
end
section
set_option linter.unusedVariables false
set_option linter.unusedSimpArgs false
namespace Go.Proofs.YtkhammleijbpeaaGreat.Sx
open Go
noncomputable section
section
variable {P : Program} {C : Ctx} {hp : Hp} {w : World}
/-- what an operation that looks at no memory gives -/
def OutP (P : Program) (C : Ctx) (s : Sem Value) (o : Option SV) : Prop := ∀ sv, o = some sv → ∃ v, sv.rel C v ∧ ∀ w : World, s.run P w = .ok v w
theorem OutP.none {s : Sem Value} : OutP P C s none := fun _ h => nomatch h
theorem OutP.mk {s : Sem Value} {sv : SV} {v : Value} (hs : ∀ w : World, s.run P w = .ok v w) (hr : sv.rel C v) : OutP P C s (some sv) := fun _ h => by cases h; exact ⟨v, hr, hs⟩
theorem OutP.int {s : Sem Value} {k : IntKind} {e : E} {n : Int} (hs : ∀ w : World, s.run P w = .ok (.int k n) w) (he : e.sc C.V C.vd ∧ e.den C.V = n) : OutP P C s (some (.sc (.int k e))) :=
  OutP.mk hs (by rw [← he.2]; exact rel_int he.1)
theorem OutP.bool {s : Sem Value} {e : E} {b : Bool} (hs : ∀ w : World, s.run P w = .ok (.bool b) w) (he : e.sc C.V C.vd ∧ e.tr C.V = b) : OutP P C s (some (.sc (.bool e))) :=
  OutP.mk hs (by rw [← he.2]; exact rel_bool he.1)
def ofP (o : Option SV) (hp : Hp) (why : String) : XR :=
  match o with
  | some v => .ret (v, hp)
  | Option.none => .bad why
theorem Out.ofP (h : HRel C hp w) {s : Sem Value} {o : Option SV} (ho : OutP P C s o) (why : String) : Out P C w s (ofP o hp why) := by
  cases o with
  | none => exact Out.bad
  | some sv =>
    obtain ⟨v, k1, k2⟩ := ho sv rfl
    exact Out.pure h (k2 w) k1
def xun (op : UnOp) (x : SV) : Option SV :=
  match op, x with
  | .neg, .pv (.one (.int k a)) => some (.sc (.int k (mkBin .sub k (.lit 0) a)))
  | .xor, .pv (.one (.int k a)) => some (.sc (.int k (mkBin .xor k (.lit (if k.signed then -1 else k.max)) a)))
  | .not, .pv (.one (.bool a)) => some (.sc (.bool (mkNo a)))
  | _, _ => none
theorem xun_ok (op : UnOp) {x : SV} {v : Value} (hx : x.rel C v) : OutP P C (Op.unary op v) (xun op x) := by
  unfold xun
  split
  · obtain ⟨h1, rfl⟩ := hx
    exact OutP.int (fun _ => rfl) (mkBin_ok .sub _ (a := .lit 0) trivial h1)
  · rename_i k a
    obtain ⟨h1, rfl⟩ := hx
    refine OutP.int (fun w => ?_) (mkBin_ok .xor k (a := .lit (if k.signed then -1 else k.max)) trivial h1)
    rfl
  · obtain ⟨h1, rfl⟩ := hx
    exact OutP.bool (fun _ => rfl) (mkNo_ok h1)
  · exact OutP.none
def xconv (P : Program) (src dst : TypeId) (x : SV) : Option SV :=
  match x, P.underlying src, P.underlying dst with
  | .pv (.one (.int _ a)), some _, some (.int k) => some (.sc (.int k (mkCast k a)))
  | .pv (.one (.str s)), some _, some .string => some (.sc (.str s))
  | _, _, _ => none
theorem xconv_ok (src dst : TypeId) {x : SV} {v : Value} (hx : x.rel C v) : OutP P C (convert src dst v) (xconv P src dst x) := by
  unfold xconv
  split
  · rename_i k0 a d k hs hd
    obtain ⟨h1, rfl⟩ := hx
    refine OutP.int (fun w => ?_) (mkCast_ok k h1)
    simp [convert, run_underlying hs, run_underlying hd, Conv.intToInt]
  · rename_i s d hs hd
    have hv : v = .string s := hx
    subst hv
    refine OutP.mk (v := .string s) (fun w => ?_) rfl
    simp [convert, run_underlying hs, run_underlying hd]
  · exact OutP.none
def xiface (P : Program) (t : TypeId) (x : SV) : Option SV :=
  match x, P.underlying t with
  | _, some (.interface _) => none
  | .pv (.one c), some _ => some (.sc (.iface t c))
  | _, _ => none
theorem xiface_ok (t : TypeId) {x : SV} {v : Value} (hx : x.rel C v) : OutP P C (Instr.makeInterface t v) (xiface P t x) := by
  unfold xiface
  split
  · exact OutP.none
  · rename_i c d hn hd
    refine OutP.mk (v := .iface t v) (fun w => ?_) ⟨v, hx, rfl⟩
    simp only [Instr.makeInterface, Sem.run_bind, run_underlying hd, Result.andThen_ok]
    cases d <;> first | rfl | exact absurd hd (hn _)
  · exact OutP.none
def asPtrs : List SV → Option (List (Nat × Nat))
  | [] => some []
  | .pv (.one (.ptr b o)) :: r => match asPtrs r with | some l => some ((b, o) :: l) | none => none
  | _ => none
theorem asPtrs_ok : ∀ {xs : List SV} {ps : List (Nat × Nat)} {vs : List Value}, asPtrs xs = some ps → All2 (SV.rel C) xs vs → All2 (ptrRel C) ps vs
  | [], ps, vs, h, hv => by cases hv; cases h; exact .nil
  | x :: xs, ps, vs, h, hv => by
    cases hv with
    | cons h1 h2 =>
      unfold asPtrs at h
      split at h
      · rename_i e; cases e
      · rename_i b o r e
        cases e
        split at h
        · rename_i l hl
          cases h
          exact .cons h1 (asPtrs_ok hl h2)
        · cases h
      · cases h
def xfunc (f : Fn) (xs cs : List SV) : Option SV :=
  match f, xs, cs with
  | .method name, [.pv (.one (.iface t (.ptr b o)))], [] => some (.sc (.mth name t b o))
  | f, xs, cs => match asPtrs xs, asPtrs cs with
    | some a, some b => some (.sc (.fn f a b))
    | _, _ => none
theorem xfunc_ok (f : Fn) {xs cs : List SV} {us vs : List Value} (hx : All2 (SV.rel C) xs us) (hc : All2 (SV.rel C) cs vs) : OutP P C (Instr.makeFunc f us.toArray vs.toArray) (xfunc f xs cs) := by
  unfold xfunc
  split
  · rename_i name t b o
    cases hc
    cases hx with
    | cons h1 h2 =>
      cases h2
      obtain ⟨u, ⟨g, c, hg, rfl⟩, rfl⟩ := h1
      exact OutP.mk (v := .func (.method name) #[.iface t (.pointer (some ⟨g, o, none⟩))] #[]) (fun _ => rfl) ⟨g, c, hg, rfl⟩
  split
  · rename_i a b ha hb
    exact OutP.mk (v := .func f us.toArray vs.toArray) (fun _ => rfl) ⟨us, vs, asPtrs_ok ha hx, asPtrs_ok hb hc, rfl⟩
  · exact OutP.none
def xfield (P : Program) (t : TypeId) (x : SV) (f : Nat) : Option SV :=
  match x, P.underlying t with
  | .pv (.agg cs), some (.struct fs) => match fs[f]? with
    | some fd => match xread P fd.type cs fd.offset with
      | some p => some (.pv p)
      | none => none
    | none => none
  | _, _ => none
theorem xfield_ok (t : TypeId) {x : SV} {v : Value} (f : Nat) (hx : x.rel C v) : OutP P C (Instr.field t v f) (xfield P t x f) := by
  unfold xfield
  split
  · rename_i cs fs ht
    obtain ⟨vs, hv, rfl⟩ := hx
    split
    · rename_i fd hf
      split
      · rename_i p hp1
        obtain ⟨u, h1, h2⟩ := xpart_ok hp1 hv
        refine OutP.mk (v := u) (fun w => ?_) h2
        simp [Instr.field, run_underlying ht, hf, asAgg, h1]
      · exact OutP.none
    · exact OutP.none
  · exact OutP.none
def xfieldAddr (P : Program) (t : TypeId) (x : SV) (f : Nat) : Option SV :=
  match x, P.underlying t with
  | .pv (.one (.ptr b o)), some (.struct fs) => match fs[f]? with
    | some fd => match xsize P fd.type with
      | some (_ + 1) => some (.sc (.ptr b (o + fd.offset)))
      | _ => none
    | none => none
  | _, _ => none
theorem xfieldAddr_ok (t : TypeId) {x : SV} {v : Value} (f : Nat) (hx : x.rel C v) : OutP P C (Instr.fieldAt t v f) (xfieldAddr P t x f) := by
  unfold xfieldAddr
  split
  · rename_i b o fs ht
    obtain ⟨g, c, hg, rfl⟩ := hx
    split
    · rename_i fd hf
      split
      · rename_i n hs
        refine OutP.mk (v := .pointer (some ⟨g, o + fd.offset, none⟩)) (fun w => ?_) ⟨g, c, hg, rfl⟩
        simp [Instr.fieldAt, run_underlying ht, hf, Instr.sureAddr, fieldPlace, xsize_ok hs, Addr.add_lit]
      · exact OutP.none
    · exact OutP.none
  · exact OutP.none
def litOf : SV → Option Int
  | .pv (.one (.int _ (.lit n))) => some n
  | _ => none
theorem litOf_ok {x : SV} {n : Int} (h : litOf x = some n) {v : Value} (hx : x.rel C v) : ∃ k, v = .int k n := by
  unfold litOf at h
  split at h
  · cases h; exact ⟨_, hx.2⟩
  · cases h
def xindexAddr (P : Program) (t : TypeId) (x ix : SV) : Option SV :=
  match litOf ix with
  | none => none
  | some i =>
    match x, P.underlying t with
    | .pv (.one (.ptr b o)), some (.array len e) =>
      match xsize P e with
      | some s => if 0 ≤ i ∧ i < len then some (.sc (.ptr b (o + i.toNat * s))) else none
      | none => none
    | .pv (.one (.slice b o len _ _)), some (.slice e) =>
      match xsize P e with
      | some s => if 0 ≤ i ∧ i < len then some (.sc (.ptr b (o + i.toNat * s))) else none
      | none => none
    | _, _ => none
theorem xindexAddr_ok (t : TypeId) {x ix : SV} {v i : Value} (hx : x.rel C v) (hi : ix.rel C i) : OutP P C (Instr.indexAt t v i) (xindexAddr P t x ix) := by
  unfold xindexAddr
  split
  · exact OutP.none
  · rename_i n hn
    obtain ⟨k, rfl⟩ := litOf_ok hn hi
    split
    · rename_i b o len e ht
      obtain ⟨g, c, hg, rfl⟩ := hx
      split
      · rename_i s hs
        split
        · rename_i hb
          refine OutP.mk (v := .pointer (some ⟨g, o + n.toNat * s, none⟩)) (fun w => ?_) ⟨g, c, hg, rfl⟩
          simp [Instr.indexAt, asIntOf, run_underlying ht, Instr.sureAddr, hb, xsize_ok hs, Addr.add_lit]
        · exact OutP.none
      · exact OutP.none
    · rename_i b o len cap el e ht
      obtain ⟨g, c, hg, hv, hcap⟩ := hx
      clear hcap
      generalize (if el = true then c - cap else cap) = q at hv
      subst hv
      split
      · rename_i s hs
        split
        · rename_i hb
          refine OutP.mk (v := .pointer (some ⟨g, o + n.toNat * s, none⟩)) (fun w => ?_) ⟨g, c, hg, rfl⟩
          simp [Instr.indexAt, asIntOf, run_underlying ht, Instr.sureAddr, hb, xsize_ok hs, Addr.add_lit]
        · exact OutP.none
      · exact OutP.none
    · exact OutP.none
def xindex (P : Program) (t : TypeId) (x ix : SV) : Option SV :=
  match litOf ix with
  | none => none
  | some i =>
    match x, P.underlying t with
    | .pv (.agg cs), some (.array len e) =>
      match xsize P e with
      | some s => if 0 ≤ i ∧ i < len then match xread P e cs (i.toNat * s) with
          | some p => some (.pv p)
          | none => none
        else none
      | none => none
    | .pv (.one (.str s)), some .string =>
      if 0 ≤ i then match s[i.toNat]? with
        | some b => some (.sc (.int .u8 (.lit b.toNat)))
        | none => none
      else none
    | _, _ => none
theorem xindex_ok (t : TypeId) {x ix : SV} {v i : Value} (hx : x.rel C v) (hi : ix.rel C i) : OutP P C (Instr.index t v i) (xindex P t x ix) := by
  unfold xindex
  split
  · exact OutP.none
  · rename_i n hn
    obtain ⟨k, rfl⟩ := litOf_ok hn hi
    split
    · rename_i cs len e ht
      obtain ⟨vs, hv, rfl⟩ := hx
      split
      · rename_i s hs
        split
        · rename_i hb
          split
          · rename_i p hp1
            obtain ⟨u, h1, h2⟩ := xpart_ok hp1 hv
            refine OutP.mk (v := u) (fun w => ?_) h2
            simp [Instr.index, asIntOf, run_underlying ht, hb, xsize_ok hs, h1]
          · exact OutP.none
        · exact OutP.none
      · exact OutP.none
    · rename_i s ht
      have hv : v = .string s := hx
      subst hv
      split
      · rename_i hb
        split
        · rename_i b hsb
          refine OutP.int (fun w => ?_) ⟨trivial, rfl⟩
          simp [Instr.index, asIntOf, run_underlying ht, hb, hsb, den_lit]
        · exact OutP.none
      · exact OutP.none
    · exact OutP.none
def xextract (x : SV) (i : Nat) : Option SV :=
  match x with
  | .tup ps => match ps[i]? with
    | some p => some (.pv p)
    | none => none
  | _ => none
theorem xextract_ok (i : Nat) {x : SV} {v : Value} (hx : x.rel C v) : OutP P C (Instr.extract v i) (xextract x i) := by
  unfold xextract
  split
  · rename_i ps
    obtain ⟨vs, hv, rfl⟩ := hx
    split
    · rename_i p hp1
      obtain ⟨u, h1, h2⟩ := hv.get _ _ hp1
      refine OutP.mk (v := u) (fun w => ?_) h2
      simp [Instr.extract, h1]
    · exact OutP.none
  · exact OutP.none
/-! ### slices of slices -/
def litOr (d : Int) : Option SV → Option Int
  | none => some d
  | some x => litOf x
/-- lower and upper bound, at most 'most' -/
def xbounds (len most : Nat) (lo hi : Option SV) : Option (Nat × Nat) :=
  match litOr len hi, litOr 0 lo with
  | some h, some l => if 0 ≤ l ∧ l ≤ h ∧ h ≤ most then some (l.toNat, h.toNat) else none
  | _, _ => none
def optRel (C : Ctx) : Option SV → Option Value → Prop
  | none, v => v = none
  | some x, v => ∃ u, v = some u ∧ x.rel C u
theorem xbounds_ok {len most cap l h : Nat} {lo hi : Option SV} {ulo uhi : Option Value} (hb : xbounds len most lo hi = some (l, h)) (hm : most ≤ cap) (hlo : optRel C lo ulo) (hhi : optRel C hi uhi) (b : Bool) :
    l ≤ h ∧ h ≤ most ∧ ∀ w : World, (Instr.sliceBounds b len cap ulo uhi none).run P w = .ok (l, h, cap) w := by
  unfold xbounds at hb
  split at hb
  · rename_i h1 l1 hh hl
    split at hb
    · rename_i hc
      simp only [Option.some.injEq, Prod.mk.injEq] at hb
      obtain ⟨rfl, rfl⟩ := hb
      refine ⟨by omega, by omega, fun w => ?_⟩
      have e1 : h1.toNat = h1 := Int.toNat_of_nonneg (by omega)
      cases hi with
      | none =>
        cases hhi
        simp only [litOr, Option.some.injEq] at hh
        subst hh
        cases lo with
        | none =>
          cases hlo
          simp only [litOr, Option.some.injEq] at hl
          subst hl
          simp [Instr.sliceBounds]
        | some x =>
          obtain ⟨u, rfl, hu⟩ := hlo
          obtain ⟨k, rfl⟩ := litOf_ok hl hu
          simp [Instr.sliceBounds]
          rw [run_sliceBound _ _ _ _ _ hc.1 (by omega)]
          simp
      | some y =>
        obtain ⟨z, rfl, hz⟩ := hhi
        obtain ⟨k1, rfl⟩ := litOf_ok hh hz
        cases lo with
        | none =>
          cases hlo
          simp only [litOr, Option.some.injEq] at hl
          subst hl
          simp [Instr.sliceBounds]
          rw [run_sliceBound _ _ _ _ _ (by omega) (by omega)]
          simp
        | some x =>
          obtain ⟨u, rfl, hu⟩ := hlo
          obtain ⟨k, rfl⟩ := litOf_ok hl hu
          simp [Instr.sliceBounds]
          rw [run_sliceBound _ _ _ _ _ (by omega) (by omega)]
          simp
          rw [run_sliceBound _ _ _ _ _ (by omega) (by omega)]
          simp
    · cases hb
  · cases hb
def xslice (P : Program) (t : TypeId) (x : SV) (lo hi mx : Option SV) : Option SV :=
  match mx, P.underlying t, x with
  | none, some (.slice e), .pv (.one (.slice b o len cap el)) =>
    match xsize P e, xbounds len (if el then len else cap) lo hi with
    | some s, some (l, h) =>
      if el then (if l = 0 ∨ l < len then some (.sc (.slice b (o + l * s) (h - l) (cap + l) true)) else none)
      else some (.sc (.slice b (if cap = l then o else o + l * s) (h - l) (cap - l) false))
    | _, _ => none
  | none, some (.slice e), .pv (.one .nils) =>
    match xsize P e, xbounds 0 0 lo hi with
    | some s, some (l, h) => some (.sc .nils)
    | _, _ => none
  | none, some (.array n e), .pv (.one (.ptr b o)) =>
    match xsize P e, xbounds n n lo hi with
    | some s, some (l, h) => some (.sc (.slice b (if n = l then o else o + l * s) (h - l) (n - l) false))
    | _, _ => none
  | none, some .string, .pv (.one (.str s)) =>
    match xbounds s.size s.size lo hi with
    | some (l, h) => some (.sc (.str (s.extract l h)))
    | _ => none
  | some m, some (.slice e), .pv (.one (.slice b o len cap el)) =>
    match litOf m, xsize P e, lo, hi with
    | some m, some s, none, some hi' => match litOf hi' with
      | some h => if 0 ≤ h ∧ h ≤ m ∧ m ≤ (if el then len else cap : Nat) then some (.sc (.slice b o h.toNat m.toNat false)) else none
      | none => none
    | _, _, _, _ => none
  | _, _, _ => none
theorem xslice_ok (t : TypeId) {x : SV} {v : Value} {lo hi mx : Option SV} {ulo uhi umx : Option Value} (hx : x.rel C v) (hlo : optRel C lo ulo) (hhi : optRel C hi uhi) (hmx : optRel C mx umx) :
    OutP P C (Instr.sliceAt t v ulo uhi umx) (xslice P t x lo hi mx) := by
  unfold xslice
  split
  · rename_i e b o len cap el ht
    cases hmx
    split
    · rename_i s l h' hs hb
      obtain ⟨g, c, hg, rfl, hcap⟩ := hx
      cases el with
      | true =>
        have hcap := hcap rfl
        simp only [if_true] at hb ⊢
        obtain ⟨b1, b2, b3⟩ := xbounds_ok (P := P) (cap := c - cap) hb (by omega) hlo hhi true
        split
        · rename_i hc
          refine OutP.mk (v := .slice (some ⟨g, o + l * s, none⟩) (h' - l) (c - (cap + l))) (fun w => ?_) ⟨g, c, hg, rfl, fun _ => by omega⟩
          simp only [Instr.sliceAt, Instr.slice, Sem.run_bind, run_underlying ht, Result.andThen_ok, b3, xsize_ok hs, Sem.run_pure]
          by_cases h0 : l = 0
          · subst h0; simp [Addr.add_lit]
          · rw [if_neg (by omega)]
            simp [Addr.add_lit]; omega
        · exact OutP.none
      | false =>
        simp only [Bool.false_eq_true, if_false] at hb ⊢
        obtain ⟨b1, b2, b3⟩ := xbounds_ok (P := P) (cap := cap) hb (Nat.le_refl _) hlo hhi true
        refine OutP.mk (v := .slice (some ⟨g, (if cap = l then o else o + l * s), none⟩) (h' - l) (cap - l)) (fun w => ?_) ⟨g, c, hg, by simp, fun e => nomatch e⟩
        simp only [Instr.sliceAt, Instr.slice, Sem.run_bind, run_underlying ht, Result.andThen_ok, b3, xsize_ok hs, Sem.run_pure]
        split <;> simp [Addr.add_lit]
    · exact OutP.none
  · rename_i e ht
    cases hmx
    have hv : v = .slice none 0 0 := hx
    subst hv
    split
    · rename_i s l h' hs hb
      obtain ⟨b1, b2, b3⟩ := xbounds_ok (P := P) (cap := 0) hb (Nat.le_refl _) hlo hhi true
      refine OutP.mk (v := .slice none 0 0) (fun w => ?_) rfl
      simp only [Instr.sliceAt, Instr.slice, Sem.run_bind, run_underlying ht, Result.andThen_ok, b3, xsize_ok hs, Sem.run_pure]
      have : h' = 0 := by omega
      have : l = 0 := by omega
      subst_vars
      rfl
    · exact OutP.none
  · rename_i n e b o ht
    cases hmx
    split
    · rename_i s l h' hs hb
      obtain ⟨g, c, hg, rfl⟩ := hx
      obtain ⟨b1, b2, b3⟩ := xbounds_ok (P := P) (cap := n) hb (Nat.le_refl _) hlo hhi false
      refine OutP.mk (v := .slice (some ⟨g, (if n = l then o else o + l * s), none⟩) (h' - l) (n - l)) (fun w => ?_) ⟨g, c, hg, by simp, fun e => nomatch e⟩
      simp only [Instr.sliceAt, Instr.sureAddr, Sem.run_bind, run_underlying ht, Result.andThen_ok, b3, xsize_ok hs, Sem.run_pure]
      split <;> simp [Addr.add_lit]
    · exact OutP.none
  · rename_i s ht
    cases hmx
    have hv : v = .string s := hx
    subst hv
    split
    · rename_i l h' hb
      obtain ⟨b1, b2, b3⟩ := xbounds_ok (P := P) (cap := s.size) hb (Nat.le_refl _) hlo hhi false
      refine OutP.mk (v := .string (s.extract l h')) (fun w => ?_) rfl
      simp [Instr.sliceAt, Instr.slice, run_underlying ht, b3]
    · exact OutP.none
  · rename_i m e b o len cap el ht
    obtain ⟨um, rfl, hm⟩ := hmx
    obtain ⟨g, c, hg, hv, hcap⟩ := hx
    have hle : (if el then len else cap) ≤ (if el then c - cap else cap) := by
      cases el with
      | true => have := hcap rfl; simp only [if_true]; omega
      | false => exact Nat.le_refl _
    clear hcap
    generalize (if el then len else cap) = cap0 at hle ⊢
    generalize (if el then c - cap else cap) = cap1 at hv hle
    subst hv
    split
    · rename_i m' s hi' hmm hs
      cases hlo
      obtain ⟨uh, rfl, hh⟩ := hhi
      obtain ⟨km, rfl⟩ := litOf_ok hmm hm
      split
      · rename_i h' hl
        obtain ⟨kh, rfl⟩ := litOf_ok hl hh
        split
        · rename_i hc
          refine OutP.mk (v := .slice (some ⟨g, o, none⟩) h'.toNat m'.toNat) (fun w => ?_) ⟨g, c, hg, by simp, fun e => nomatch e⟩
          simp only [Instr.sliceAt, Instr.slice, Sem.run_bind, run_underlying ht, Result.andThen_ok, Instr.sliceBounds, Bool.false_eq_true, if_false, if_true, Sem.run_pure]
          rw [run_sliceBound _ _ _ _ _ (by omega) (by omega)]
          simp only [Result.andThen_ok]
          rw [run_sliceBound _ _ _ _ _ (by omega) (by omega)]
          simp [xsize_ok hs, Addr.add_lit]
        · exact OutP.none
      · exact OutP.none
    · exact OutP.none
  · exact OutP.none
end
end
end Go.Proofs.YtkhammleijbpeaaGreat.Sx
end
section
set_option linter.unusedVariables false
set_option linter.unusedSimpArgs false
namespace Go.Proofs.YtkhammleijbpeaaGreat.Sx
open Go
noncomputable section
section
variable {P : Program} {C : Ctx} {hp : Hp} {w : World}
theorem foldl_splice (vs : List Value) : ∀ (off k : Nat) (cells : List Value), off + k + vs.length ≤ cells.length →
    ((vs.zipIdx k).foldl (fun cs (x : Value × Nat) => cs.setIfInBounds (off + x.2) x.1) cells.toArray) = (cells.take (off + k) ++ vs ++ cells.drop (off + k + vs.length)).toArray := by
  induction vs with
  | nil => intro off k cells h; simp
  | cons v vs ih =>
    intro off k cells h
    rw [List.zipIdx_cons, List.foldl_cons]
    simp only [List.setIfInBounds_toArray]
    have hl : off + (k + 1) + vs.length ≤ (cells.set (off + k) v).length := by simp at h ⊢; omega
    rw [ih off (k + 1) (cells.set (off + k) v) hl]
    congr 1
    have e1 : (cells.set (off + k) v).take (off + (k + 1)) = cells.take (off + k) ++ [v] := by
      rw [show off + (k + 1) = (off + k) + 1 by omega, List.take_add_one]
      rw [List.take_set_of_le (by omega)]
      have : off + k < cells.length := by simp at h; omega
      simp [this]
    have e2 : (cells.set (off + k) v).drop (off + (k + 1) + vs.length) = cells.drop (off + k + (v :: vs).length) := by
      rw [List.drop_set_of_lt (by omega)]
      congr 1
      simp; omega
    rw [e1, e2]
    simp [List.append_assoc]
def xfill (place : Nat → Option (Nat × Nat)) (row : List SC) : List (Nat × SV) → Option (List SC)
  | [] => some row
  | (i, .pv p) :: rest =>
    match place i with
    | some (off, size) => if p.cells.length = size ∧ off + size ≤ row.length then xfill place (xsplice row off p.cells) rest else none
    | none => none
  | _ => none
def partRel (C : Ctx) (x : Nat × SV) (y : Nat × Value) : Prop := y.1 = x.1 ∧ x.2.rel C y.2
theorem xfill_ok {place : Nat → Option (Nat × Nat)} : ∀ {ps : List (Nat × SV)} {row row' : List SC} {us : List (Nat × Value)} {vs : List Value}, xfill place row ps = some row' → All2 (partRel C) ps us → All2 (SC.rel C) row vs →
    ∃ vs', Instr.fill place vs.toArray us = some vs'.toArray ∧ All2 (SC.rel C) row' vs'
  | [], row, row', us, vs, h, hu, hv => by cases hu; cases h; exact ⟨vs, rfl, hv⟩
  | (i, sv) :: ps, row, row', us, vs, h, hu, hv => by
    cases hu with
    | @cons _ u _ us h1 h2 =>
      obtain ⟨j, v⟩ := u
      obtain ⟨e, hr⟩ := h1
      simp only at e hr
      subst e
      cases sv with
      | tup qs => simp [xfill] at h
      | any => simp [xfill] at h
      | pv p =>
        simp only [xfill] at h
        split at h
        · rename_i off size hpl
          split at h
          · rename_i hc
            obtain ⟨cs, hcs, hvc⟩ := PV.rel.cells (p := p) hr
            have hl1 := hcs.length
            have hl2 := hv.length
            have hspl : All2 (SC.rel C) (xsplice row off p.cells) (vs.take off ++ cs ++ vs.drop (off + cs.length)) := by
              rw [xsplice_eq row off p.cells (by omega), hl1]
              exact ((hv.take off).append hcs).append (hv.drop _)
            obtain ⟨vs', k1, k2⟩ := xfill_ok h h2 hspl
            refine ⟨vs', ?_, k2⟩
            simp only [Instr.fill, hpl, hvc]
            have hsz : ¬ (cs.toArray.size ≠ size ∨ off + cs.toArray.size > vs.toArray.size) := by simp; omega
            have hf := foldl_splice cs off 0 vs (by omega)
            simp only [Nat.add_zero] at hf
            have hz : cs.toArray.zipIdx.foldl (fun (cs : Array Value) (x : Value × Nat) => cs.setIfInBounds (off + x.2) x.1) vs.toArray = (vs.take off ++ cs ++ vs.drop (off + cs.length)).toArray := by
              rw [← hf]; simp
            have hcond : (decide (cs.toArray.size ≠ size) || decide (off + cs.toArray.size > vs.toArray.size)) = false := by simp; omega
            rw [if_neg (by simpa using hsz)]
            rw [hz]
            exact k1
          · cases h
        · cases h
def xplaces (P : Program) (fs : List Field) : Option (List (Nat × Nat)) :=
  match fs with
  | [] => some []
  | f :: fs => match xsize P f.type, xplaces P fs with
    | some s, some r => some ((f.offset, s) :: r)
    | _, _ => none
theorem xplaces_ok : ∀ {fs : List Field} {l : List (Nat × Nat)}, xplaces P fs = some l → ∀ w : World, (fs.mapM (fun f => do pure (f.offset, ← sizeOf f.type)) : Sem (List (Nat × Nat))).run P w = .ok l w
  | [], l, h, w => by cases h; rfl
  | f :: fs, l, h, w => by
    unfold xplaces at h
    split at h
    · rename_i s r hs hr
      cases h
      rw [List.mapM_cons]
      simp only [Sem.run_bind, xsize_ok hs, Result.andThen_ok, Sem.run_pure]
      rw [xplaces_ok hr w]
      rfl
    · cases h
def xbuild (P : Program) (t : TypeId) (parts : List (Nat × SV)) : Option SV :=
  match xzero P t, P.underlying t with
  | some z, some (.struct fs) =>
    match xplaces P fs.toList with
    | some l => match xfill (fun i => l[i]?) z.cells parts with
      | some row => some (.pv (.agg row))
      | none => none
    | none => none
  | some z, some (.array _ e) =>
    match xsize P e with
    | some s => match xfill (fun i => some (i * s, s)) z.cells parts with
      | some row => some (.pv (.agg row))
      | none => none
    | none => none
  | _, _ => none
theorem xbuild_ok (t : TypeId) {ps : List (Nat × SV)} {us : List (Nat × Value)} (hu : All2 (partRel C) ps us) : OutP P C (Instr.build t us.toArray) (xbuild P t ps) := by
  unfold xbuild
  split
  · rename_i z fs hz ht
    obtain ⟨zv, hz1, hz2⟩ := xzero_ok hz C
    obtain ⟨zs, hz3, hz4⟩ := hz2.cells
    split
    · rename_i l hl
      split
      · rename_i row hr
        obtain ⟨vs, k1, k2⟩ := xfill_ok hr hu hz3
        refine OutP.mk (v := .agg vs.toArray) (fun w => ?_) ⟨vs, k2, rfl⟩
        have hm := xplaces_ok hl w
        simp only [Instr.build, Sem.run_bind, hz1, Result.andThen_ok, run_underlying ht, hz4]
        rw [Array.mapM_eq_mapM_toList]
        simp only [Sem.run_map, hm, Result.andThen_ok]
        have : (fun x : Nat => l.toArray[x]?) = (fun i : Nat => l[i]?) := by funext i; simp
        simp only [this, k1]
        rfl
      · exact OutP.none
    · exact OutP.none
  · rename_i z n e hz ht
    obtain ⟨zv, hz1, hz2⟩ := xzero_ok hz C
    obtain ⟨zs, hz3, hz4⟩ := hz2.cells
    split
    · rename_i s hs
      split
      · rename_i row hr
        obtain ⟨vs, k1, k2⟩ := xfill_ok hr hu hz3
        refine OutP.mk (v := .agg vs.toArray) (fun w => ?_) ⟨vs, k2, rfl⟩
        simp only [Instr.build, Sem.run_bind, hz1, Result.andThen_ok, run_underlying ht, hz4, xsize_ok hs, k1]
        rfl
      · exact OutP.none
    · exact OutP.none
  · exact OutP.none
/-! ### rows of zeros -/
def xzeros (z : List SC) (n : Nat) : List SC :=
  match z with
  | [c] => List.replicate n c
  | z => (List.range n).map fun j => z.getD (j % z.length) .undef
theorem xzeros_ok {z : List SC} {zs : List Value} (hz : All2 (SC.rel C) z zs) (n : Nat) (h : n = 0 ∨ 0 < z.length) : All2 (SC.rel C) (xzeros z n) ((Array.range n).map (fun i => zs.toArray[i % zs.toArray.size]!)).toList := by
  have gen : All2 (SC.rel C) ((List.range n).map fun j => z.getD (j % z.length) .undef) ((Array.range n).map (fun i => zs.toArray[i % zs.toArray.size]!)).toList := by
    have e : ((Array.range n).map (fun i => zs.toArray[i % zs.toArray.size]!)).toList = (List.range n).map (fun i => zs.toArray[i % zs.toArray.size]!) := by
      rw [Array.toList_map, Array.toList_range]
    rw [e]
    refine All2.of_map fun j hj => ?_
    have hn : j < n := by simpa using hj
    have hl := hz.length
    have hlt : j % z.length < z.length := Nat.mod_lt _ (by omega)
    obtain ⟨v, k1, k2⟩ := hz.get (j % z.length) (z[j % z.length]'hlt) (by simp)
    have : zs.toArray[j % zs.toArray.size]! = v := by
      simp only [List.size_toArray, ← hl]
      simp [k1]
    rw [this]
    simpa [List.getD, hlt] using k2
  unfold xzeros
  split
  · rename_i c
    have e : ((List.range n).map fun j => [c].getD (j % [c].length) .undef) = List.replicate n c := by
      apply List.ext_getElem?
      intro i
      by_cases hi : i < n <;> simp [hi, Nat.mod_one, List.getElem?_replicate]
    rw [← e]
    exact gen
  · exact gen
def xbuildSlice (P : Program) (t : TypeId) (len : Nat) (parts : List (Nat × SV)) (hp : Hp) : XR :=
  match P.underlying t with
  | some (.slice e) =>
    match xsize P e, xzero P e with
    | some s, some z =>
      if len * s ≤ 16777216 ∧ (len * s = 0 ∨ 0 < z.cells.length) then
        match xfill (fun i => some (i * s, s)) (xzeros z.cells (len * s)) parts with
        | some row => xnew hp row e s false fun n => .sc (.slice n 0 len len false)
        | none => .bad "buildSlice"
      else .bad "buildSlice"
    | _, _ => .bad "buildSlice"
  | _ => .bad "buildSlice"
theorem SV.rel_slice {b g c : Nat} (h : C.bl b = some (g, c)) {o n m : Nat} : SV.rel C (.sc (.slice b o n m false)) (.slice (some ⟨g, o, none⟩) n m) := ⟨g, c, h, rfl, fun e => nomatch e⟩
theorem xbuildSlice_ok (h : HRel C hp w) (t : TypeId) (len : Nat) {ps : List (Nat × SV)} {us : List (Nat × Value)} (hu : All2 (partRel C) ps us) : Out P C w (Instr.buildSlice t len us.toArray) (xbuildSlice P t len ps hp) := by
  unfold xbuildSlice
  split
  · rename_i e ht
    split
    · rename_i s z hs hz
      obtain ⟨zv, hz1, hz2⟩ := xzero_ok hz C
      obtain ⟨zs, hz3, hz4⟩ := hz2.cells
      split
      · rename_i hc
        split
        · rename_i row hr
          obtain ⟨vs, k1, k2⟩ := xfill_ok hr hu (xzeros_ok hz3 (len * s) hc.2)
          intro Φ hx
          obtain ⟨hp', m1, m2, m3, m4⟩ := xnew_ok h k2 (spare := []) (c := 0) (el := false) (fun _ => rfl) (fun e => nomatch e) hx
          refine ⟨_, _, .slice (some ⟨w.heap.size, 0, none⟩) len len, .sc (.slice hp.nx 0 len len false), hp', ?_, SV.rel_slice m3, m1, m2, by rw [env_add]; exact m4⟩
          have hle : ¬ (len * s > 2 ^ 24) := by omega
          have hfill : Instr.fill (fun i => some (i * s, s)) (Array.map (fun i => zs.toArray[i % zs.toArray.size]!) (Array.range (len * s))) us = some vs.toArray := by
            simpa only [Array.toArray_toList] using k1
          by_cases h0 : len * s = 0
          · simp only [Instr.buildSlice, Sem.run_bind, run_underlying ht, Result.andThen_ok, xsize_ok hs, if_neg hle, h0, if_true, Sem.run_pure, Sem.run_ite]
            rw [h0] at hfill
            simp only [Array.range_zero', Array.map_empty] at hfill
            have hn2 : ¬ (0 > 2 ^ 24) := by decide
            simp only [if_neg hn2, Sem.run_pure, Result.andThen_ok, Array.range_zero', Array.map_empty, hfill]
            simp [newRow, alloc_eq]
          · simp only [Instr.buildSlice, Sem.run_bind, run_underlying ht, Result.andThen_ok, xsize_ok hs, if_neg hle, if_neg h0, Sem.run_pure, Sem.run_ite, hz1, hz4]
            simp only [hfill, List.toList_toArray]
            simp [newRow, alloc_eq]
        · exact Out.bad
      · exact Out.bad
    · exact Out.bad
  · exact Out.bad
end
end
end Go.Proofs.YtkhammleijbpeaaGreat.Sx
end
section
set_option linter.unusedVariables false
set_option linter.unusedSimpArgs false
namespace Go.Proofs.YtkhammleijbpeaaGreat.Sx
open Go
noncomputable section
section
variable {P : Program} {C : Ctx} {hp : Hp} {w : World}
def xmake (P : Program) (t : TypeId) (l c : SV) (hp : Hp) : XR :=
  match litOf l, litOf c, P.underlying t with
  | some l, some c, some (.slice e) =>
    match P.info? e, xzero P e with
    | some i, some z =>
      if 0 ≤ l ∧ l ≤ c ∧ c.toNat * i.size ≤ 16777216 ∧ (i.bytes : Int) * c ≤ 281474976710656 ∧ c ≤ 9223372036854775807 ∧ (c.toNat * i.size = 0 ∨ 0 < z.cells.length) then
        bif Nat.blt 256 (c.toNat * i.size) && z.cells.all SC.ok then xnewW hp (xzeros z.cells (c.toNat * i.size)) e i.size false fun n => .sc (.slice n 0 l.toNat c.toNat false)
        else xnew hp (xzeros z.cells (c.toNat * i.size)) e i.size false fun n => .sc (.slice n 0 l.toNat c.toNat false)
      else .bad "make"
    | _, _ => .bad "make"
  | _, _, _ => .bad "make"
theorem xzeros_all {z : List SC} {n : Nat} (hz : z.all SC.ok = true) (h : n = 0 ∨ 0 < z.length) : (xzeros z n).all SC.ok = true := by
  unfold xzeros
  split
  · rename_i c
    simp only [List.all_cons, List.all_nil, Bool.and_true] at hz
    rw [List.all_eq_true]
    intro x hx
    rw [(List.mem_replicate.1 hx).2]; exact hz
  · rw [List.all_eq_true]
    intro x hx
    obtain ⟨j, hj, rfl⟩ := List.mem_map.1 hx
    have hn := List.mem_range.1 hj
    have hl : 0 < z.length := by rcases h with h | h <;> omega
    have hlt : j % z.length < z.length := Nat.mod_lt _ hl
    rw [List.getD_eq_getElem?_getD, List.getElem?_eq_getElem hlt]
    exact List.all_eq_true.1 hz _ (List.getElem_mem hlt)
theorem madeCells_eq (z : Array Value) (n : Nat) : madeCells z n = (Array.range n).map (fun i => z[i % z.size]!) ∨ True := .inr trivial
theorem xmake_ok (h : HRel C hp w) (t : TypeId) {l c : SV} {ul uc : Value} (hl : l.rel C ul) (hc : c.rel C uc) : Out P C w (Instr.makeSlice t ul uc) (xmake P t l c hp) := by
  unfold xmake
  split
  · rename_i ln cn e hln hcn ht
    obtain ⟨kl, rfl⟩ := litOf_ok hln hl
    obtain ⟨kc, rfl⟩ := litOf_ok hcn hc
    split
    · rename_i i z hi hz
      split
      · rename_i hcond
        obtain ⟨c1, c2, c3, c4, c5, c6⟩ := hcond
        have hz' := hz
        unfold xzero at hz'
        rw [hi] at hz'
        simp only at hz'
        split at hz'
        · rename_i zv hzv
          have hr := ofValue_rel C hz'
          obtain ⟨zs, hz3, hz4⟩ := hr.cells
          have hrun := run_makeSlice (P := P) w t e i zv ht hi hzv kl kc ln cn c1 c2 c3 c4 c5
          intro Φ hx
          have hx : (xnew hp (xzeros z.cells (cn.toNat * i.size)) e i.size false fun n => .sc (.slice n 0 ln.toNat cn.toNat false)).holds Φ C.V := by
            cases hb : (Nat.blt 256 (cn.toNat * i.size) && z.cells.all SC.ok) with
            | true =>
              rw [hb, cond_true] at hx
              simp only [Bool.and_eq_true] at hb
              exact xnewW_new (xzeros_all hb.2 c6) hx
            | false => rw [hb, cond_false] at hx; exact hx
          have hzr := xzeros_ok (C := C) hz3 (cn.toNat * i.size) c6
          obtain ⟨hp', m1, m2, m3, m4⟩ := xnew_ok h hzr (spare := []) (c := 0) (el := false) (fun _ => rfl) (fun e => nomatch e) hx
          refine ⟨_, _, .slice (some ⟨w.heap.size, 0, none⟩) ln.toNat cn.toNat, .sc (.slice hp.nx 0 ln.toNat cn.toNat false), hp', ?_, SV.rel_slice m3, m1, m2, by rw [env_add]; exact m4⟩
          rw [hrun]
          congr 2
          rw [List.append_nil, Array.toArray_toList, hz4]
          unfold madeCells
          by_cases h0 : cn.toNat * i.size = 0
          · simp [h0]
          · simp [h0]
        · cases hz'
      · exact Out.bad
    · exact Out.bad
  · exact Out.bad
/-! ### append -/
/-- a part of a row; the whole is not gone through -/
def takeF (row : List SC) (o n : Nat) : List SC := bif Nat.beq o 0 && Nat.beq n row.length then row else (row.drop o).take n
theorem takeF_eq (row : List SC) (o n : Nat) : takeF row o n = (row.drop o).take n := by
  unfold takeF
  cases hb : (Nat.beq o 0 && Nat.beq n row.length) with
  | false => rfl
  | true =>
    simp only [Bool.and_eq_true] at hb
    rw [Nat.eq_of_beq_eq_true hb.1, Nat.eq_of_beq_eq_true hb.2]
    simp
def xnews (P : Program) (xT : TypeId) (size : Nat) (x : SV) (hs : Hs) : Option (Nat × List SC) :=
  match P.underlying xT, x with
  | some (.slice _), .pv (.one .nils) => some (0, [])
  | some (.slice _), .pv (.one (.slice b o len _ _)) =>
    match hget hs b with
    | some (.cells row _ _ _) => if o + len * size ≤ row.length then some (len, takeF row o (len * size)) else none
    | _ => none
  | some .string, .pv (.one (.str s)) => if size = 1 then some (s.size, s.data.toList.map fun b => .int .u8 (.lit b.toNat)) else none
  | _, _ => none
structure News (P : Program) (C : Ctx) (w : World) (size : Nat) (v : Value) (n : Nat) (cs : List SC) (news : List Value) : Prop where
  rel : All2 (SC.rel C) cs news
  len : news.length = n * size
  lenOf : ∀ w : World, (Builtin.lenOf v).run P w = .ok n w
  first : ∀ w' : World, w'.heap = w.heap → (Builtin.firstCells size n v).run P w' = .ok news.toArray w'
theorem slice_news (h : HRel C hp w) {b o len cap : Nat} {el : Bool} {row : List SC} {T es q : _} (hb : hget hp.H b = some (.cells row T es q)) {size : Nat} (hl : o + len * size ≤ row.length) {v : Value} (hv : SC.rel C (.slice b o len cap el) v) :
    ∃ news, News P C w size v len ((row.drop o).take (len * size)) news := by
  obtain ⟨g, c, hg, hv, _⟩ := hv
  generalize (if el = true then c - cap else cap) = qq at hv
  subst hv
  obtain ⟨g', c', k1, vs, sp, h1, h2, _⟩ := h.at_ _ _ hb
  rw [hg] at k1; cases k1
  have hlen := h1.length
  refine ⟨(vs.drop o).take (len * size), (h1.drop o).take _, by simp; omega, fun w => rfl, fun w' hw => ?_⟩
  refine run_firstCells_some (P := P) w' size len ⟨g, o, none⟩ len qq _ (by simp; omega) fun j v hj => ?_
  rw [List.getElem?_take] at hj
  split at hj
  · rw [List.getElem?_drop] at hj
    have hlt := (List.getElem?_eq_some_iff.1 hj).1
    simp only [Addr.add_lit, World.cell?, hw, h2]
    simp [List.getElem?_append_left hlt, hj]
  · cases hj
theorem xnews_ok (h : HRel C hp w) {xT : TypeId} {size : Nat} {x : SV} {n : Nat} {cs : List SC} (hx : xnews P xT size x hp.H = some (n, cs)) {v : Value} (hv : x.rel C v) :
    ((∃ e, P.underlying xT = some (.slice e)) ∨ P.underlying xT = some .string) ∧ ∃ news, News P C w size v n cs news := by
  unfold xnews at hx
  split at hx
  · rename_i e' ht
    cases hx
    have e : v = .slice none 0 0 := hv
    subst e
    exact ⟨.inl ⟨_, ht⟩, [], .nil, by simp, fun w => rfl, fun w' _ => by simp [Builtin.firstCells]⟩
  · rename_i e' b o len cap el ht
    split at hx
    · rename_i row T es q hb
      split at hx
      · rename_i hl
        cases hx
        rw [takeF_eq]
        exact ⟨.inl ⟨_, ht⟩, slice_news h hb hl hv⟩
      · cases hx
    · cases hx
  · rename_i s ht
    split at hx
    · rename_i hs
      cases hx
      subst hs
      have e : v = .string s := hv
      subst e
      refine ⟨.inr ht, s.data.toList.map (fun b => Value.int .u8 b.toNat), All2.of_map fun b _ => ⟨trivial, rfl⟩, by simp, fun w => rfl, fun w' _ => ?_⟩
      have : s.extract 0 s.size = s := by
        rw [ByteArray.ext_iff]
        simp
      simp only [Builtin.firstCells, this, Sem.run_pure]
      congr 1
      apply Array.ext'
      simp
    · cases hx
  · cases hx
theorem xnews_all (h : HRel C hp w) {xT : TypeId} {size : Nat} {x : SV} {n : Nat} {cs : List SC} (hx : xnews P xT size x hp.H = some (n, cs)) : cs.all SC.ok = true := by
  unfold xnews at hx
  split at hx
  · cases hx; rfl
  · rename_i e' b o len cap el ht
    split at hx
    · rename_i row T es q hb
      split at hx
      · rename_i hl
        cases hx
        obtain ⟨g, c, _, vs, sp, _, _, _, _, hok⟩ := h.at_ _ _ hb
        rw [takeF_eq, List.all_eq_true]
        exact fun y hy => List.all_eq_true.1 hok y (List.mem_of_mem_drop (List.mem_of_mem_take hy))
      · cases hx
    · cases hx
  · split at hx
    · cases hx
      rw [List.all_eq_true]
      intro y hy
      obtain ⟨b, _, rfl⟩ := List.mem_map.1 hy
      rfl
    · cases hx
  · cases hx
theorem run_append_new {t xT ty e : TypeId} {i : TypeInfo} {z : Value} (ht : P.underlying t = some (.slice e)) (hi : P.info? e = some i) (hz : i.zero = some z) (hd : (∃ e, P.underlying xT = some (.slice e)) ∨ P.underlying xT = some .string)
    {base : Option Addr} {sLen sCap n : Nat} {x : Value} {olds news : List Value} (hlen : ∀ w : World, (Builtin.lenOf x).run P w = .ok n w)
    (hold : ∀ w' : World, w'.heap = w.heap → (Builtin.firstCells i.size sLen (.slice base sLen sCap)).run P w' = .ok olds.toArray w')
    (hnew : ∀ w' : World, w'.heap = w.heap → (Builtin.firstCells i.size n x).run P w' = .ok news.toArray w')
    (hg : ¬ (sLen + n ≤ sCap)) (h63 : sLen + n ≤ 9223372036854775807) (hfit : Builtin.nextslicecap (sLen + n) sCap * i.bytes ≤ 281474976710656) :
    (Builtin.append_ #[t, xT] ty #[.slice base sLen sCap, x]).run P w =
      .ok (.slice (some ⟨w.heap.size, 0, none⟩) (sLen + n) (grownCap w (sLen + n) sCap e))
        (w.drew.alloc (.cells (olds.toArray ++ news.toArray ++ Builtin.zeroCells z.cells (grownCap w (sLen + n) sCap e - (sLen + n))) e)) := by
  have e1 := hold w.drew rfl
  have e2 := hnew w.drew rfl
  have h63a : ¬ (9223372036854775807 < (sLen : Int) + (n : Int)) := by omega
  have h48a : ¬ (281474976710656 < Builtin.nextslicecap (sLen + n) sCap * i.bytes) := by omega
  rcases hd with ⟨e', hd⟩ | hd
  all_goals
    simp only [Builtin.append_, Sem.run_bind, run_underlying ht, run_underlying hd, run_size hi, Result.andThen_ok, List.getElem?_toArray, List.getElem?_cons_zero, List.getElem?_cons_succ]
    simp [typeInfo, zeroValue, hi, hz, hlen, hg, Question.forced, newRow, grownCap, h63a, h48a, e1, e2]
    congr 2
    apply Array.ext'
    simp
theorem run_append_fit {t xT ty e : TypeId} {i : TypeInfo} (ht : P.underlying t = some (.slice e)) (hi : P.info? e = some i) (hd : (∃ e, P.underlying xT = some (.slice e)) ∨ P.underlying xT = some .string)
    {a : Addr} {sLen sCap n : Nat} {x : Value} {news : List Value} {w' : World} (hlen : ∀ w : World, (Builtin.lenOf x).run P w = .ok n w)
    (hnew : (Builtin.firstCells i.size n x).run P w = .ok news.toArray w) (hg : sLen + n ≤ sCap) (hst : (storeCells (a.add (sLen * i.size)) news).run P w = .ok () w') :
    (Builtin.append_ #[t, xT] ty #[.slice (some a) sLen sCap, x]).run P w = .ok (.slice (some a) (sLen + n) sCap) w' := by
  rcases hd with ⟨e', hd⟩ | hd
  all_goals
    simp only [Builtin.append_, Sem.run_bind, run_underlying ht, run_underlying hd, run_size hi, Result.andThen_ok, List.getElem?_toArray, List.getElem?_cons_zero, List.getElem?_cons_succ]
    simp [hlen, hg, hnew, hst]
theorem run_append_nil0 {t xT ty e : TypeId} {i : TypeInfo} (ht : P.underlying t = some (.slice e)) (hi : P.info? e = some i) (hd : (∃ e, P.underlying xT = some (.slice e)) ∨ P.underlying xT = some .string)
    {x : Value} {news : List Value} (hlen : ∀ w : World, (Builtin.lenOf x).run P w = .ok 0 w) (hnew : (Builtin.firstCells i.size 0 x).run P w = .ok news.toArray w) :
    (Builtin.append_ #[t, xT] ty #[.slice none 0 0, x]).run P w = .ok (.slice none 0 0) w := by
  rcases hd with ⟨e', hd⟩ | hd
  all_goals
    simp only [Builtin.append_, Sem.run_bind, run_underlying ht, run_underlying hd, run_size hi, Result.andThen_ok, List.getElem?_toArray, List.getElem?_cons_zero, List.getElem?_cons_succ]
    simp [hlen, hnew]
/-- a block goes on under another number -/
theorem HRel.move (h : HRel C hp w) {b g c : Nat} {blk0 blk' : Blk} {w' : World} (h0 : hget hp.H b = some blk0) (hit0 : blk0.it = false) (hg : C.bl b = some (g, c)) (hcan : hp.can = true) (hw : ∀ k, k ≠ g → w'.heap[k]? = w.heap[k]?) (hs : w'.heap.size = w.heap.size)
    (h1 : w'.tape = w.tape) (h2 : w'.os = w.os) (h3 : w'.output = w.output) (hb : blk'.rel C c w'.heap[g]?) :
    HRel (C.add hp.nx g c) { hp with H := hput (hdel hp.H b) hp.nx blk', nx := hp.nx + 1 } w' ∧ Kp C w (C.add hp.nx g c) w' := by
  have hj := (h.free hp.nx (Hp.can_free hcan)).1
  obtain ⟨j, hjj⟩ : ∃ j, j = hp.nx := ⟨_, rfl⟩
  have hcn := @Hp.can_next hp hcan
  rw [← hjj] at hj hcn ⊢
  have hle := Ctx.le_add (g := g) (c := c) hj
  have hgl : g < w.heap.size := by
    obtain ⟨g1, c1, k1, k2⟩ := h.at_ b blk0 h0
    rw [hg] at k1; cases k1; exact k2.lt
  have old : ∀ x blk, hget (hdel hp.H b) x = some blk → ∃ g1 c1, C.bl x = some (g1, c1) ∧ g1 ≠ g ∧ blk.rel C c1 w.heap[g1]? := fun x blk hx => by
    obtain ⟨k1, k2⟩ := hget_del _ _ _ _ hx
    obtain ⟨g1, c1, m1, m2⟩ := h.at_ x blk k2
    exact ⟨g1, c1, m1, fun e => k1 (h.inj x b blk blk0 g1 c1 c k2 h0 m1 (e ▸ hg)), m2⟩
  have bj : (C.add j g c).bl j = some (g, c) := by simp [Ctx.add]
  have hgS : ¬ C.S g := h.apart b g c hg
  have hgO : C.O g := h.own b blk0 g c h0 hit0 hg
  refine ⟨⟨⟨fun x blk hx => ?_, fun x x' blk blk1 g1 c1 c2 hx hx' hg1 hg2 => ?_⟩, C.X.keep _ _ _ _ h.ext (by omega) (fun k hk => hw k fun e => hgS (e ▸ hk)), fun x g1 c1 hx => ?_, fun x blk g1 c1 hx hit hg1 => ?_, fun x hb1 => ?_, fun x g1 c1 hx => ?_⟩, hle, by omega, h1, h2, h3, fun k hk hn _ => hw k fun e => hn (e ▸ hgO), fun _ h => .inl h, fun x hx => ?_, fun x g1 c1 hx => ?_⟩
  · rcases hget_put _ _ _ _ _ hx with ⟨rfl, rfl⟩ | hx
    · exact ⟨g, c, bj, hb.le hle⟩
    · obtain ⟨g1, c1, k1, k2, k3⟩ := old x blk hx
      exact ⟨g1, c1, hle.bl _ _ k1, by rw [hw g1 k2]; exact k3.le hle⟩
  · by_cases e : x = j <;> by_cases e' : x' = j
    · rw [e, e']
    · exfalso
      subst e
      rw [bj] at hg1; cases hg1
      rcases hget_put _ _ _ _ _ hx' with ⟨k, _⟩ | hx'
      · exact e' k
      · obtain ⟨g3, c3, k1, k2, k3⟩ := old x' blk1 hx'
        have := hle.bl _ _ k1
        rw [hg2] at this; cases this
        exact k2 rfl
    · exfalso
      subst e'
      rw [bj] at hg2; cases hg2
      rcases hget_put _ _ _ _ _ hx with ⟨k, _⟩ | hx
      · exact e k
      · obtain ⟨g3, c3, k1, k2, k3⟩ := old x blk hx
        have := hle.bl _ _ k1
        rw [hg1] at this; cases this
        exact k2 rfl
    · rcases hget_put _ _ _ _ _ hx with ⟨k, _⟩ | hx
      · exact absurd k e
      · rcases hget_put _ _ _ _ _ hx' with ⟨k, _⟩ | hx'
        · exact absurd k e'
        · simp [Ctx.add, e] at hg1
          simp [Ctx.add, e'] at hg2
          exact h.inj x x' blk blk1 g1 c1 c2 (hget_del _ _ _ _ hx).2 (hget_del _ _ _ _ hx').2 hg1 hg2
  · by_cases e : x = j
    · subst e; rw [bj] at hx; cases hx; exact hgS
    · simp [Ctx.add, e] at hx; exact h.apart x g1 c1 hx
  · by_cases e : x = j
    · subst e; rw [bj] at hg1; cases hg1; exact .inl rfl
    · simp [Ctx.add, e] at hg1
      rcases hget_put _ _ _ _ _ hx with ⟨k, _⟩ | hx
      · exact absurd k e
      · exact .inr (h.own x blk g1 c1 (hget_del _ _ _ _ hx).2 hit hg1)
  · obtain ⟨m1, m2⟩ := hcn hb1
    obtain ⟨k1, k2⟩ := h.free x m1
    refine ⟨?_, k2⟩
    simp only [Ctx.add]
    rw [if_neg m2]
    exact k1
  · rw [hs]
    by_cases e : x = j
    · subst e; rw [bj] at hx; cases hx; exact hgl
    · simp [Ctx.add, e] at hx; exact h.blt x g1 c1 hx
  · rcases hx with rfl | hx
    · exact .inl hgO
    · exact .inl hx
  · by_cases e : x = j
    · subst e; rw [bj] at hx; cases hx; exact .inl ⟨b, c, hg⟩
    · simp [Ctx.add, e] at hx; exact .inl ⟨x, c1, hx⟩
/-- append: what is appended; where there is room, and where not -/
def xappend (P : Program) (sT xT : TypeId) (s x : SV) (hp : Hp) : XR :=
  match P.underlying sT with
  | some (.slice e) =>
    match P.info? e, xzero P e with
    | some i, some z =>
      if z.cells.length = i.size ∧ 0 < i.size then
        match xnews P xT i.size x hp.H with
        | some (n, cs) =>
          match s with
          | .pv (.one .nils) =>
            if n = 0 then .ret (.sc .nils, hp)
            else if n * i.bytes ≤ 140737488355328 ∧ n ≤ 9223372036854775807 then
              bif Nat.blt 256 n then xnewW hp cs e i.size true fun j => .sc (.slice j 0 n 0 true) else xnew hp cs e i.size true fun j => .sc (.slice j 0 n 0 true)
            else .bad "append size"
          | .pv (.one (.slice b o len cap false)) =>
            if len + n ≤ cap then
              (xput b (o + len * i.size) cs hp).bind fun r => .ret (.sc (.slice b o (len + n) cap false), r.2)
            else
              match hget hp.H b with
              | some (.cells row _ _ _) =>
                if o + len * i.size ≤ row.length ∧ (len + n) * i.bytes ≤ 140737488355328 ∧ len + n ≤ 9223372036854775807 then
                  xnew hp ((row.drop o).take (len * i.size) ++ cs) e i.size true fun j => .sc (.slice j 0 (len + n) 0 true)
                else .bad "append size"
              | _ => .bad "append no row"
          | .pv (.one (.slice b 0 len 0 true)) =>
            if n = 0 then .ret (s, hp) else
            match hget hp.H b with
            | some (.cells row T es true) =>
              if len * i.size = row.length ∧ T = e ∧ es = i.size ∧ (len + n) * i.bytes ≤ 140737488355328 ∧ len + n ≤ 9223372036854775807 ∧ hp.can ∧ cs.all SC.ok then
                scsK (row ++ cs) fun row => natK hp.nx fun nx => hputK (hdel hp.H b) nx (.cells row e i.size true) fun H => natK (nx + 1) fun nx' => .ret (.sc (.slice nx 0 (len + n) 0 true), { hp with H := H, nx := nx' })
              else .bad "append not at the end"
            | _ => .bad "append no row"
          | _ => .bad "append"
        | none => .bad "append what"
      else .bad "append size"
    | _, _ => .bad "append"
  | _ => .bad "append"
theorem HRel.drew (h : HRel C hp w) : HRel C hp w.drew := h.same rfl
theorem Kp.drew (C : Ctx) (w : World) : Kp C w C w.drew := Kp.same rfl rfl rfl rfl
theorem grown_rest (z : Array Value) (n m : Nat) (hz : z.size = m) : (Builtin.zeroCells z n).toList.length = n * m := by
  rw [Array.length_toList, size_zeroCells, hz]
/-- the new row of an append -/
theorem new_row (h : HRel C hp w) {e : TypeId} {i : TypeInfo} {zv : Value} {m : Nat} (hsz : zv.cells.size = i.size) {row : List SC} {vs : List Value} (hv : All2 (SC.rel C) row vs) (hlen : vs.length = m * i.size) (old : Nat) {k : Nat → SV} (hk : k = fun j => .sc (.slice j 0 m 0 true)) {Φ : Env → SV × Hp → Prop}
    (hx : (xnew hp row e i.size true k).holds Φ C.V) {s : Sem Value}
    (hrun : s.run P w = .ok (.slice (some ⟨w.heap.size, 0, none⟩) m (grownCap w m old e)) (w.drew.alloc (.cells (vs.toArray ++ Builtin.zeroCells zv.cells (grownCap w m old e - m)) e))) :
    ∃ C' w' v sv hp', s.run P w = .ok v w' ∧ sv.rel C' v ∧ HRel C' hp' w' ∧ Kp C w C' w' ∧ Φ C'.V (sv, hp') := by
  subst hk
  have hge := grownCap_ge w m old e
  obtain ⟨hp', m1, m2, m3, m4⟩ := xnew_ok h.drew hv (spare := (Builtin.zeroCells zv.cells (grownCap w m old e - m)).toList) (c := grownCap w m old e) (el := true) (fun e => nomatch e) (fun _ => by
    rw [List.length_append, hlen, grown_rest _ _ _ hsz, ← Nat.add_mul]; congr 1; omega) hx
  have ew : (w.drew.alloc (.cells (vs ++ (Builtin.zeroCells zv.cells (grownCap w m old e - m)).toList).toArray e)) = (w.drew.alloc (.cells (vs.toArray ++ Builtin.zeroCells zv.cells (grownCap w m old e - m)) e)) := by
    congr 2
    apply Array.ext'
    simp
  rw [ew] at m1 m2
  exact ⟨_, _, _, .sc (.slice hp.nx 0 m 0 true), hp', hrun, ⟨_, _, m3, by simp, fun _ => by simpa using hge⟩, m1, (Kp.drew C w).trans m2, by rw [env_add]; exact m4⟩
theorem xappend_ok (h : HRel C hp w) (sT xT ty : TypeId) {s x : SV} {us ux : Value} (hs : s.rel C us) (hx : x.rel C ux) : Out P C w (Builtin.append_ #[sT, xT] ty #[us, ux]) (xappend P sT xT s x hp) := by
  unfold xappend
  split
  case h_2 => exact Out.bad
  rename_i e ht
  split
  case h_2 => exact Out.bad
  rename_i i z hi hz
  split
  case isFalse => exact Out.bad
  rename_i hcond
  obtain ⟨hzl, hpos⟩ := hcond
  obtain ⟨zv, hzv, hsz⟩ : ∃ zv, i.zero = some zv ∧ zv.cells.size = i.size := by
    unfold xzero at hz
    rw [hi] at hz
    simp only at hz
    split at hz
    · rename_i zv hzv
      obtain ⟨zs, k1, k2⟩ := (ofValue_rel C hz).cells
      exact ⟨zv, hzv, by rw [k2]; have := k1.length; simp; omega⟩
    · cases hz
  split
  case h_2 => exact Out.bad
  rename_i n cs hn
  obtain ⟨hd, news, N⟩ := xnews_ok (w := w) h hn hx
  split
  · have e0 : us = .slice none 0 0 := hs
    subst e0
    split
    · rename_i h0
      subst h0
      exact Out.pure h (run_append_nil0 ht hi hd N.lenOf (N.first w rfl)) rfl
    · rename_i h0
      split
      · rename_i hb
        intro Φ hx'
        have hx' : (xnew hp cs e i.size true fun j => .sc (.slice j 0 n 0 true)).holds Φ C.V := by
          cases hbl : Nat.blt 256 n with
          | true => rw [hbl, cond_true] at hx'; exact xnewW_new (xnews_all h hn) hx'
          | false => rw [hbl, cond_false] at hx'; exact hx'
        refine new_row (P := P) (m := n) (old := 0) h hsz N.rel N.len rfl hx' ?_
        have hr := run_append_new (P := P) (w := w) (ty := ty) (base := none) (sLen := 0) (sCap := 0) (olds := []) (z := zv) ht hi hzv hd N.lenOf (fun w' _ => by simp [Builtin.firstCells]) N.first (by omega) (by omega) (growslice_fits (by omega) (by simpa using hb.1))
        simpa using hr
      · exact Out.bad
  · rename_i b o len cap
    split
    · rename_i hfit
      obtain ⟨g, c, hg, hv, _⟩ := hs
      simp only [Bool.false_eq_true, if_false] at hv
      subst hv
      intro Φ hx'
      rw [T.holds_bind] at hx'
      obtain ⟨C', w', hp', k1, k2, k3, k4⟩ := xput_ok (P := P) h hg (o := o + len * i.size) N.rel _ hx'
      refine ⟨C', w', _, .sc (.slice b o (len + n) cap false), hp', run_append_fit (P := P) (ty := ty) ht hi hd N.lenOf (N.first w rfl) hfit (by rw [Addr.add_lit]; exact k1), SV.rel_slice (k3.le.bl _ _ hg), k2, k3, k4⟩
    · rename_i hfit
      split
      · rename_i row T es el hb
        split
        · rename_i hc
          intro Φ hx'
          obtain ⟨olds, O⟩ := slice_news (P := P) h hb hc.1 hs
          have hs' := hs
          obtain ⟨g, c, hg, hv, _⟩ := hs'
          simp only [Bool.false_eq_true, if_false] at hv
          subst hv
          refine new_row (P := P) (m := len + n) (old := cap) h hsz (O.rel.append N.rel) (by rw [List.length_append, O.len, N.len, Nat.add_mul]) rfl hx' ?_
          have hr := run_append_new (P := P) (w := w) (ty := ty) (z := zv) ht hi hzv hd N.lenOf O.first N.first (by omega) (by omega) (growslice_fits (by omega) hc.2.1)
          rw [hr]
          congr 2
          simp
        · exact Out.bad
      · exact Out.bad
  · rename_i b len
    split
    · rename_i h0
      subst h0
      obtain ⟨g, c, hg, hv, hcl⟩ := hs
      have hcl := hcl rfl
      simp only [if_true] at hv
      subst hv
      have hnil : news = [] := List.eq_nil_of_length_eq_zero (by simpa using N.len)
      subst hnil
      refine Out.pure h (run_append_fit (P := P) (ty := ty) (w' := w) ht hi hd N.lenOf (N.first w rfl) (by omega) rfl) ⟨g, c, hg, by simp, fun _ => hcl⟩
    · rename_i h0
      split
      · rename_i row T es hb
        split
        · rename_i hc
          obtain ⟨c1, rfl, rfl, c4, c5, c6, c7⟩ := hc
          intro Φ hx'
          rw [scsK_eq, natK_eq, hputK_eq, natK_eq] at hx'
          have hs' := hs
          obtain ⟨g, c, hg, hv, hcl⟩ := hs'
          have hcl := hcl rfl
          simp only [if_true, Nat.sub_zero] at hv
          subst hv
          obtain ⟨g', c', k1, vs, sp, q1, q2, q3, q4, q5⟩ := h.at_ _ _ hb
          rw [hg] at k1; cases k1
          have q4 := q4 rfl
          have hl1 := q1.length
          have hall : (row ++ cs).all SC.ok = true := by rw [List.all_append, q5, c7]; rfl
          obtain ⟨olds, O⟩ := slice_news (P := P) (size := i.size) h hb (by omega) hs
          have heq : (row.drop 0).take (len * i.size) = row := by rw [List.drop_zero, List.take_of_length_le (by omega)]
          have Orel := O.rel
          rw [heq] at Orel
          by_cases hroom : len + n ≤ c
          · -- in place
            have hcells : (len + n) * i.size ≤ (vs ++ sp).length := by rw [← q4]; exact Nat.mul_le_mul_right _ hroom
            have hone : ∀ v ∈ news, v.oneCell' = true := fun v hm => by
              obtain ⟨k, hk⟩ := List.getElem?_of_mem hm
              obtain ⟨a, ha, hr⟩ := N.rel.getR k v hk
              exact hr.one (List.all_eq_true.1 c7 a (List.mem_of_getElem? ha))
            have hnl := N.len
            rw [Nat.add_mul] at hcells
            have hst := run_storeCells_at P g (len * i.size) T news 0 (vs ++ sp).toArray w q2 (by simp only [List.size_toArray]; omega) hone
            simp only [Nat.add_zero] at hst
            have hcur : (List.take (len * i.size) (vs ++ sp) ++ news ++ List.drop (len * i.size + news.length) (vs ++ sp)) = (vs ++ news) ++ sp.drop news.length := by
              have hvl : len * i.size = vs.length := by omega
              rw [hvl, List.take_left, List.drop_append]
              simp
            have hst2 : (storeCells ((⟨g, 0, none⟩ : Addr).add (len * i.size)) news).run P w = .ok () (w.setRow g ((vs ++ news) ++ sp.drop news.length).toArray) := by
              rw [Addr.add_lit, Nat.zero_add, hst]
              show Result.ok () (w.setRow g (List.take (len * i.size) (vs ++ sp) ++ news ++ List.drop (len * i.size + news.length) (vs ++ sp)).toArray) = _
              rw [hcur]
            have hrel : Blk.rel C c (w.setRow g ((vs ++ news) ++ sp.drop news.length).toArray).heap[g]? (.cells (row ++ cs) T i.size true) := by
              refine ⟨vs ++ news, sp.drop news.length, q1.append N.rel, setRow_heap w g _ _ T _ q2, (fun e => nomatch e), fun _ => ?_, hall⟩
              rw [q4]
              simp only [List.length_append, List.length_drop] at hcells ⊢
              omega
            obtain ⟨m1, m2⟩ := h.move hb rfl hg c6 (fun k hk => setRow_other w g k _ hk) (by simp) rfl rfl rfl hrel
            refine ⟨_, _, _, .sc (.slice hp.nx 0 (len + n) 0 true), _, run_append_fit (P := P) (ty := ty) ht hi hd N.lenOf (N.first w rfl) hroom hst2, ⟨g, c, by simp [Ctx.add], by simp, fun _ => by omega⟩, m1, m2, by rw [env_add]; exact hx'⟩
          · have hr := run_append_new (P := P) (w := w) (ty := ty) (z := zv) ht hi hzv hd N.lenOf O.first N.first hroom c5 (growslice_fits (by omega) c4)
            have hx2 : (xnew { hp with H := hdel hp.H b } (row ++ cs) T i.size true fun j => .sc (.slice j 0 (len + n) 0 true)).holds Φ C.V := by
              unfold xnew
              rw [if_pos ⟨c6, hall⟩, scsK_eq, natK_eq, hputK_eq, natK_eq]
              exact hx'
            refine new_row (P := P) (m := len + n) (old := c) (h.del b) hsz (Orel.append N.rel) (by rw [List.length_append, O.len, N.len, Nat.add_mul]) rfl hx2 ?_
            rw [hr]
            congr 2
            simp
        · exact Out.bad
      · exact Out.bad
  · exact Out.bad
end
end
end Go.Proofs.YtkhammleijbpeaaGreat.Sx
end
