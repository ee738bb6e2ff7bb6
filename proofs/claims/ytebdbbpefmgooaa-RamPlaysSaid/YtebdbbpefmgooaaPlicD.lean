/- The PLIC's state as data (plain Lean; no walk). No condition. -/
import Derived.Test.YtebdbbpefmgooaaLib
set_option linter.unusedVariables false
set_option linter.unusedSimpArgs false
namespace Go.Proofs.Ytebdbbpefmgooaa
open Go.RowKit

/-- what api.Devices holds -/
structure Dev where
  msip : Bool
  mtime : Nat
  cmp : Nat
  pr : Nat → Nat
  pend : Nat
  cla : Nat
  en : Nat → Nat
  th : Nat → Nat
  lines : Nat
  rxa : Option Addr
  rxl : Nat
  rxc : Nat
  txa : Option Addr
  txl : Nat
  txc : Nat
  uen : Nat
  lost : Bool
def Dev.cells (d : Dev) : Array Value := #[.bool d.msip, .int .u64 d.mtime, .int .u64 d.cmp, .int .u32 (d.pr 0), .int .u32 (d.pr 1), .int .u32 (d.pr 2), .int .u32 (d.pr 3), .int .u32 (d.pr 4),
  .int .u32 (d.pr 5), .int .u32 (d.pr 6), .int .u32 (d.pr 7), .int .u32 d.pend, .int .u32 d.cla, .int .u32 (d.en 0), .int .u32 (d.en 1), .int .u32 (d.th 0), .int .u32 (d.th 1), .int .u32 d.lines,
  .slice d.rxa d.rxl d.rxc, .slice d.txa d.txl d.txc, .int .u32 d.uen, .bool d.lost]
/-- every number fits its kind -/
structure Dev.Ok (d : Dev) : Prop where
  pr : ∀ i, i < 8 → d.pr i < 2 ^ 32
  pend : d.pend < 2 ^ 32
  cla : d.cla < 2 ^ 32
  en : ∀ i, i < 2 → d.en i < 2 ^ 32
  th : ∀ i, i < 2 → d.th i < 2 ^ 32
theorem Dev.cell_pr (d : Dev) : ∀ (i : Nat), i < 8 → d.cells[3 + i]? = some (.int .u32 (d.pr i))
  | 0, _ => rfl | 1, _ => rfl | 2, _ => rfl | 3, _ => rfl | 4, _ => rfl | 5, _ => rfl | 6, _ => rfl | 7, _ => rfl
  | n + 8, h => absurd h (by omega)
theorem Dev.cell_en (d : Dev) : ∀ (i : Nat), i < 2 → d.cells[13 + i]? = some (.int .u32 (d.en i))
  | 0, _ => rfl | 1, _ => rfl
  | n + 2, h => absurd h (by omega)
theorem Dev.cell_th (d : Dev) : ∀ (i : Nat), i < 2 → d.cells[15 + i]? = some (.int .u32 (d.th i))
  | 0, _ => rfl | 1, _ => rfl
  | n + 2, h => absurd h (by omega)
def upd (f : Nat → Nat) (i v : Nat) : Nat → Nat := fun j => if j = i then v else f j
theorem Dev.set_pr (d : Dev) (v : Nat) : ∀ (i : Nat), i < 8 → d.cells.setIfInBounds (3 + i) (.int .u32 v) = ({ d with pr := upd d.pr i v } : Dev).cells
  | 0, _ => rfl | 1, _ => rfl | 2, _ => rfl | 3, _ => rfl | 4, _ => rfl | 5, _ => rfl | 6, _ => rfl | 7, _ => rfl
  | n + 8, h => absurd h (by omega)
theorem Dev.set_en (d : Dev) (v : Nat) : ∀ (i : Nat), i < 2 → d.cells.setIfInBounds (13 + i) (.int .u32 v) = ({ d with en := upd d.en i v } : Dev).cells
  | 0, _ => rfl | 1, _ => rfl
  | n + 2, h => absurd h (by omega)
theorem Dev.set_th (d : Dev) (v : Nat) : ∀ (i : Nat), i < 2 → d.cells.setIfInBounds (15 + i) (.int .u32 v) = ({ d with th := upd d.th i v } : Dev).cells
  | 0, _ => rfl | 1, _ => rfl
  | n + 2, h => absurd h (by omega)
theorem Dev.set_pend (d : Dev) (v : Nat) : d.cells.setIfInBounds 11 (.int .u32 v) = ({ d with pend := v } : Dev).cells := rfl
theorem Dev.set_cla (d : Dev) (v : Nat) : d.cells.setIfInBounds 12 (.int .u32 v) = ({ d with cla := v } : Dev).cells := rfl

/-- the best source among 1 .. n of a context -/
def bestTo (x : Nat) (pr : Nat → Nat) : Nat → Nat
  | 0 => 0
  | n + 1 => if x.testBit (n + 1) ∧ pr (bestTo x pr n) < pr (n + 1) then n + 1 else bestTo x pr n
theorem bestTo_le (x : Nat) (pr : Nat → Nat) : ∀ n, bestTo x pr n ≤ n
  | 0 => Nat.le_refl _
  | n + 1 => by unfold bestTo; split; omega; have := bestTo_le x pr n; omega
def Dev.best (d : Dev) (c : Nat) : Nat := bestTo (d.pend &&& d.en c) d.pr 7

/-! bits -/
theorem and32 (a b : Nat) (ha : a < 2 ^ 32) (hb : b < 2 ^ 32) : bits .and .u32 (a : Int) (b : Int) = ((a &&& b : Nat) : Int) := u32_and_nat a b ha hb
theorem and_lt32 {a : Nat} (b : Nat) (ha : a < 2 ^ 32) : a &&& b < 2 ^ 32 := Nat.lt_of_le_of_lt Nat.and_le_left ha
theorem bit32 (x s : Nat) (hx : x < 2 ^ 32) : bits .and .u32 ((x / 2 ^ s : Nat) : Int) 1 = ((x.testBit s).toNat : Int) := by
  have h := u32_and_nat (x / 2 ^ s) 1 (Nat.lt_of_le_of_lt (Nat.div_le_self _ _) hx) (by omega)
  rw [show ((1 : Nat) : Int) = 1 from rfl] at h
  rw [h, Nat.testBit, Nat.shiftRight_eq_div_pow]
  simp only [Nat.and_one_is_mod]
  rcases Nat.mod_two_eq_zero_or_one (x / 2 ^ s) with e | e <;> simp [e, Nat.one_and_eq_mod_two]
theorem bit32i (x s : Nat) (hx : x < 2 ^ 32) : bits .and .u32 ((x : Int) / 2 ^ s) 1 = ((x.testBit s).toNat : Int) := by
  have h := bit32 x s hx
  rw [Int.natCast_ediv, Int.natCast_pow] at h
  exact h
theorem bit_ne (x s : Nat) (hx : x < 2 ^ 32) : (bits .and .u32 ((x : Int) / 2 ^ s) 1 != 0) = x.testBit s := by
  rw [bit32i x s hx]; cases x.testBit s <;> rfl
theorem bit_eq1 (x s : Nat) (hx : x < 2 ^ 32) : (bits .and .u32 ((x : Int) / 2 ^ s) 1 == 1) = x.testBit s := by
  rw [bit32i x s hx]; cases x.testBit s <;> rfl
def andNot32 (a b : Nat) : Nat := a &&& (4294967295 - b)
theorem andNot32_i (a b : Nat) (ha : a < 2 ^ 32) (hb : b < 2 ^ 32) : bits .andNot .u32 (a : Int) (b : Int) = (andNot32 a b : Int) := u32_andNot_nat a b ha hb
theorem or32 (a b : Nat) (ha : a < 2 ^ 32) (hb : b < 2 ^ 32) : bits .or .u32 (a : Int) (b : Int) = ((a ||| b : Nat) : Int) := u32_or_nat a b ha hb
theorem andNot32_lt {a : Nat} (b : Nat) (ha : a < 2 ^ 32) : andNot32 a b < 2 ^ 32 := and_lt32 _ ha
/-- the tick of levels l -/
def Dev.tick (d : Dev) (l : Nat) : Dev := { d with pend := d.pend ||| andNot32 (l &&& 254) d.cla }
theorem Dev.tick_ok (d : Dev) (l : Nat) (hd : d.Ok) (hl : l < 2 ^ 32) : (d.tick l).Ok :=
  ⟨hd.pr, Nat.or_lt_two_pow hd.pend (andNot32_lt _ (and_lt32 _ hl)), hd.cla, hd.en, hd.th⟩
/-- which register stands at an offset: its kind, its number -/
def placeOf (off : Int) : Int × Int :=
  if off = 4096 then (2, 0) else if off = 8192 then (3, 0) else if off = 8320 then (3, 1) else if off = 2097152 then (4, 0) else if off = 2101248 then (4, 1)
  else if off = 2097156 then (5, 0) else if off = 2101252 then (5, 1)
  else if off = 4 then (1, 1) else if off = 8 then (1, 2) else if off = 12 then (1, 3) else if off = 16 then (1, 4) else if off = 20 then (1, 5) else if off = 24 then (1, 6) else if off = 28 then (1, 7)
  else (0, 0)
def pow2 (s : Nat) : Nat := 2 ^ s
theorem pow2_lt {s : Nat} (h : s ≤ 7) : pow2 s < 2 ^ 32 := Nat.pow_lt_pow_right (by omega) (by omega)
theorem shl1_32 {s : Nat} (h : s ≤ 7) : (2 : Int) ^ s % 4294967296 = (pow2 s : Int) := by
  have h1 := pow2_lt h
  have h2 : ((2 : Int) ^ s) = ((pow2 s : Nat) : Int) := by unfold pow2; rw [Int.natCast_pow]; rfl
  rw [h2]
  omega
/-- source s is claimed -/
def Dev.claim (d : Dev) (s : Nat) : Dev := { d with pend := andNot32 d.pend (pow2 s), cla := d.cla ||| pow2 s }
theorem Dev.claim_ok (d : Dev) (s : Nat) (hd : d.Ok) (hs : s ≤ 7) : (d.claim s).Ok :=
  ⟨hd.pr, andNot32_lt _ hd.pend, Nat.or_lt_two_pow hd.cla (pow2_lt hs), hd.en, hd.th⟩
theorem Dev.best_le (d : Dev) (c : Nat) : d.best c ≤ 7 := bestTo_le _ _ _
end Go.Proofs.Ytebdbbpefmgooaa
