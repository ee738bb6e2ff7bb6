/- RamNil: the walk. No condition. The PLIC's state as data (plain Lean; no walk). No condition. What is written into the PLIC's registers, as numbers (plain Lean). No condition. Rules by which the walk loads and stores a whole struct in one step: a block told by its row of cells. No condition. Contracts of tappethelp.Own, Same, Plain, Kept, CopyBytes. No condition. Bytes and bools that came in, as the walks take them. No condition. RomLoads: the walk. No condition. Contracts of the functions of the ROM and of its law: what each call answers and leaves. No condition. Contracts of the functions of the ROM and of its law: what each call answers and leaves. No condition. -/
import Derived.Test.YtkogjjeoihnjpaaGreatPack7
import Derived.StillTailTactics
import Derived.BigRegion
import Derived.Deep.RegionWith
import Derived.Deep.RegionHeld3
import Derived.Deep.QuietTactic
import Derived.BigQuiet
import Derived.Deep.LoopGhost
import Derived.Deep.DeepCutAuto
import Derived.Deep.DeepFit
import Derived.Deep.DeepMust
import Derived.Handy
import Derived.Test.YtkogjjeoihnjpaaGreatPack6
import Derived.Deep.OwnRows
import Derived.Test.YtkogjjeoihnjpaaGreatPack10
section
set_option linter.unusedVariables false
set_option linter.unusedSimpArgs false
namespace Go.Proofs.YtkogjjeoihnjpaaGreat
open Go.RowKit
set_option maxRecDepth 100000 in
set_option maxHeartbeats 1000000 in
theorem ram_fork_nil (w : World) : Calls Tryz.prog 74 #[.pointer none] w fun e w' => e = .returned (.pointer none) ∧ w = w' := by
  go_enter Tryz.func74, Tryz.ntmps74
  go_wp2_with fail
  go_ret
  exact ⟨rfl, rfl⟩
set_option maxRecDepth 100000 in
set_option maxHeartbeats 1000000 in
theorem ram_same_nn (w : World) : Calls Tryz.prog 33 #[.pointer none, .pointer none] w fun e w' => e = .returned (.bool true) ∧ w = w' := by
  go_enter Tryz.func33, Tryz.ntmps33
  go_wp2_with fail
  go_ret
  exact ⟨rfl, rfl⟩
set_option maxRecDepth 100000 in
set_option maxHeartbeats 1000000 in
theorem ram_same_np (b : Nat) (w : World) : Calls Tryz.prog 33 #[.pointer none, .pointer (some ⟨b, 0, none⟩)] w fun e w' => e = .returned (.bool false) ∧ w = w' := by
  go_enter Tryz.func33, Tryz.ntmps33
  go_wp2_with fail
  go_ret
  exact ⟨rfl, rfl⟩
set_option maxRecDepth 100000 in
set_option maxHeartbeats 1000000 in
theorem ram_same_pn (b : Nat) (w : World) : Calls Tryz.prog 33 #[.pointer (some ⟨b, 0, none⟩), .pointer none] w fun e w' => e = .returned (.bool false) ∧ w = w' := by
  go_enter Tryz.func33, Tryz.ntmps33
  go_wp2_with fail
  go_ret
  exact ⟨rfl, rfl⟩
end Go.Proofs.YtkogjjeoihnjpaaGreat
end
section
set_option linter.unusedVariables false
set_option linter.unusedSimpArgs false
namespace Go.Proofs.YtkogjjeoihnjpaaGreat
open Go.RowKit

/-- what api.Devices holds -/
structure Dev where
  msip : Bool
  mtime : Nat
  cmp : Nat
  pr : Nat → Nat
  pend : Nat
  cla : Nat
  en : Nat → Nat
  th : Nat → Nat
  lines : Nat
  rxa : Option Addr
  rxl : Nat
  rxc : Nat
  txa : Option Addr
  txl : Nat
  txc : Nat
  uen : Nat
  lost : Bool
def Dev.cells (d : Dev) : Array Value := #[.bool d.msip, .int .u64 d.mtime, .int .u64 d.cmp, .int .u32 (d.pr 0), .int .u32 (d.pr 1), .int .u32 (d.pr 2), .int .u32 (d.pr 3), .int .u32 (d.pr 4),
  .int .u32 (d.pr 5), .int .u32 (d.pr 6), .int .u32 (d.pr 7), .int .u32 d.pend, .int .u32 d.cla, .int .u32 (d.en 0), .int .u32 (d.en 1), .int .u32 (d.th 0), .int .u32 (d.th 1), .int .u32 d.lines,
  .slice d.rxa d.rxl d.rxc, .slice d.txa d.txl d.txc, .int .u32 d.uen, .bool d.lost]
/-- every number fits its kind -/
structure Dev.Ok (d : Dev) : Prop where
  pr : ∀ i, i < 8 → d.pr i < 2 ^ 32
  pend : d.pend < 2 ^ 32
  cla : d.cla < 2 ^ 32
  en : ∀ i, i < 2 → d.en i < 2 ^ 32
  th : ∀ i, i < 2 → d.th i < 2 ^ 32
theorem Dev.cell_pr (d : Dev) : ∀ (i : Nat), i < 8 → d.cells[3 + i]? = some (.int .u32 (d.pr i))
  | 0, _ => rfl | 1, _ => rfl | 2, _ => rfl | 3, _ => rfl | 4, _ => rfl | 5, _ => rfl | 6, _ => rfl | 7, _ => rfl
  | n + 8, h => absurd h (by omega)
theorem Dev.cell_en (d : Dev) : ∀ (i : Nat), i < 2 → d.cells[13 + i]? = some (.int .u32 (d.en i))
  | 0, _ => rfl | 1, _ => rfl
  | n + 2, h => absurd h (by omega)
theorem Dev.cell_th (d : Dev) : ∀ (i : Nat), i < 2 → d.cells[15 + i]? = some (.int .u32 (d.th i))
  | 0, _ => rfl | 1, _ => rfl
  | n + 2, h => absurd h (by omega)
def upd (f : Nat → Nat) (i v : Nat) : Nat → Nat := fun j => if j = i then v else f j
theorem Dev.set_pr (d : Dev) (v : Nat) : ∀ (i : Nat), i < 8 → d.cells.setIfInBounds (3 + i) (.int .u32 v) = ({ d with pr := upd d.pr i v } : Dev).cells
  | 0, _ => rfl | 1, _ => rfl | 2, _ => rfl | 3, _ => rfl | 4, _ => rfl | 5, _ => rfl | 6, _ => rfl | 7, _ => rfl
  | n + 8, h => absurd h (by omega)
theorem Dev.set_en (d : Dev) (v : Nat) : ∀ (i : Nat), i < 2 → d.cells.setIfInBounds (13 + i) (.int .u32 v) = ({ d with en := upd d.en i v } : Dev).cells
  | 0, _ => rfl | 1, _ => rfl
  | n + 2, h => absurd h (by omega)
theorem Dev.set_th (d : Dev) (v : Nat) : ∀ (i : Nat), i < 2 → d.cells.setIfInBounds (15 + i) (.int .u32 v) = ({ d with th := upd d.th i v } : Dev).cells
  | 0, _ => rfl | 1, _ => rfl
  | n + 2, h => absurd h (by omega)
theorem Dev.set_pend (d : Dev) (v : Nat) : d.cells.setIfInBounds 11 (.int .u32 v) = ({ d with pend := v } : Dev).cells := rfl
theorem Dev.set_cla (d : Dev) (v : Nat) : d.cells.setIfInBounds 12 (.int .u32 v) = ({ d with cla := v } : Dev).cells := rfl

/-- the best source among 1 .. n of a context -/
def bestTo (x : Nat) (pr : Nat → Nat) : Nat → Nat
  | 0 => 0
  | n + 1 => if x.testBit (n + 1) ∧ pr (bestTo x pr n) < pr (n + 1) then n + 1 else bestTo x pr n
theorem bestTo_le (x : Nat) (pr : Nat → Nat) : ∀ n, bestTo x pr n ≤ n
  | 0 => Nat.le_refl _
  | n + 1 => by unfold bestTo; split; omega; have := bestTo_le x pr n; omega
def Dev.best (d : Dev) (c : Nat) : Nat := bestTo (d.pend &&& d.en c) d.pr 7

/-! bits -/
theorem and32 (a b : Nat) (ha : a < 2 ^ 32) (hb : b < 2 ^ 32) : bits .and .u32 (a : Int) (b : Int) = ((a &&& b : Nat) : Int) := u32_and_nat a b ha hb
theorem and_lt32 {a : Nat} (b : Nat) (ha : a < 2 ^ 32) : a &&& b < 2 ^ 32 := Nat.lt_of_le_of_lt Nat.and_le_left ha
theorem bit32 (x s : Nat) (hx : x < 2 ^ 32) : bits .and .u32 ((x / 2 ^ s : Nat) : Int) 1 = ((x.testBit s).toNat : Int) := by
  have h := u32_and_nat (x / 2 ^ s) 1 (Nat.lt_of_le_of_lt (Nat.div_le_self _ _) hx) (by omega)
  rw [show ((1 : Nat) : Int) = 1 from rfl] at h
  rw [h, Nat.testBit, Nat.shiftRight_eq_div_pow]
  simp only [Nat.and_one_is_mod]
  rcases Nat.mod_two_eq_zero_or_one (x / 2 ^ s) with e | e <;> simp [e, Nat.one_and_eq_mod_two]
theorem bit32i (x s : Nat) (hx : x < 2 ^ 32) : bits .and .u32 ((x : Int) / 2 ^ s) 1 = ((x.testBit s).toNat : Int) := by
  have h := bit32 x s hx
  rw [Int.natCast_ediv, Int.natCast_pow] at h
  exact h
theorem bit_ne (x s : Nat) (hx : x < 2 ^ 32) : (bits .and .u32 ((x : Int) / 2 ^ s) 1 != 0) = x.testBit s := by
  rw [bit32i x s hx]; cases x.testBit s <;> rfl
theorem bit_eq1 (x s : Nat) (hx : x < 2 ^ 32) : (bits .and .u32 ((x : Int) / 2 ^ s) 1 == 1) = x.testBit s := by
  rw [bit32i x s hx]; cases x.testBit s <;> rfl
def andNot32 (a b : Nat) : Nat := a &&& (4294967295 - b)
theorem andNot32_i (a b : Nat) (ha : a < 2 ^ 32) (hb : b < 2 ^ 32) : bits .andNot .u32 (a : Int) (b : Int) = (andNot32 a b : Int) := u32_andNot_nat a b ha hb
theorem or32 (a b : Nat) (ha : a < 2 ^ 32) (hb : b < 2 ^ 32) : bits .or .u32 (a : Int) (b : Int) = ((a ||| b : Nat) : Int) := u32_or_nat a b ha hb
theorem andNot32_lt {a : Nat} (b : Nat) (ha : a < 2 ^ 32) : andNot32 a b < 2 ^ 32 := and_lt32 _ ha
/-- the tick of levels l -/
def Dev.tick (d : Dev) (l : Nat) : Dev := { d with pend := d.pend ||| andNot32 (l &&& 254) d.cla }
theorem Dev.tick_ok (d : Dev) (l : Nat) (hd : d.Ok) (hl : l < 2 ^ 32) : (d.tick l).Ok :=
  ⟨hd.pr, Nat.or_lt_two_pow hd.pend (andNot32_lt _ (and_lt32 _ hl)), hd.cla, hd.en, hd.th⟩
/-- which register stands at an offset: its kind, its number -/
def placeOf (off : Int) : Int × Int :=
  if off = 4096 then (2, 0) else if off = 8192 then (3, 0) else if off = 8320 then (3, 1) else if off = 2097152 then (4, 0) else if off = 2101248 then (4, 1)
  else if off = 2097156 then (5, 0) else if off = 2101252 then (5, 1)
  else if off = 4 then (1, 1) else if off = 8 then (1, 2) else if off = 12 then (1, 3) else if off = 16 then (1, 4) else if off = 20 then (1, 5) else if off = 24 then (1, 6) else if off = 28 then (1, 7)
  else (0, 0)
def pow2 (s : Nat) : Nat := 2 ^ s
theorem pow2_lt {s : Nat} (h : s ≤ 7) : pow2 s < 2 ^ 32 := Nat.pow_lt_pow_right (by omega) (by omega)
theorem shl1_32 {s : Nat} (h : s ≤ 7) : (2 : Int) ^ s % 4294967296 = (pow2 s : Int) := by
  have h1 := pow2_lt h
  have h2 : ((2 : Int) ^ s) = ((pow2 s : Nat) : Int) := by unfold pow2; rw [Int.natCast_pow]; rfl
  rw [h2]
  omega
/-- source s is claimed -/
def Dev.claim (d : Dev) (s : Nat) : Dev := { d with pend := andNot32 d.pend (pow2 s), cla := d.cla ||| pow2 s }
theorem Dev.claim_ok (d : Dev) (s : Nat) (hd : d.Ok) (hs : s ≤ 7) : (d.claim s).Ok :=
  ⟨hd.pr, andNot32_lt _ hd.pend, Nat.or_lt_two_pow hd.cla (pow2_lt hs), hd.en, hd.th⟩
theorem Dev.best_le (d : Dev) (c : Nat) : d.best c ≤ 7 := bestTo_le _ _ _
end Go.Proofs.YtkogjjeoihnjpaaGreat
end
section
set_option linter.unusedVariables false
set_option linter.unusedSimpArgs false
namespace Go.Proofs.YtkogjjeoihnjpaaGreat
open Go.RowKit
def lo32 (v : Nat) : Nat := v &&& 4294967295
def and7 (v : Nat) : Nat := v &&& 7
def and254 (v : Nat) : Nat := v &&& 254
theorem lo32_lt (v : Nat) : lo32 v < 2 ^ 32 := Nat.lt_of_le_of_lt Nat.and_le_right (by omega)
theorem and7_lt (v : Nat) : and7 v < 8 := Nat.lt_of_le_of_lt Nat.and_le_right (by omega)
theorem and254_lt (v : Nat) : and254 v < 255 := Nat.lt_of_le_of_lt Nat.and_le_right (by omega)
theorem lo32_i (v : Nat) (h : v < 2 ^ 64) : bits .and .u64 (v : Int) 4294967295 = (lo32 v : Int) := u64_and_nat v 4294967295 h (by omega)
theorem and7_i (v : Nat) (h : v < 2 ^ 32) : bits .and .u64 (v : Int) 7 = (and7 v : Int) := u64_and_nat v 7 (by omega) (by omega)
theorem and254_i (v : Nat) (h : v < 2 ^ 32) : bits .and .u64 (v : Int) 254 = (and254 v : Int) := u64_and_nat v 254 (by omega) (by omega)
theorem mod32_i (v : Nat) (h : v < 2 ^ 32) : (v : Int) % 4294967296 = (v : Int) := by omega
/-- the completion of source s in context k -/
def Dev.complete (d : Dev) (k s : Nat) : Dev := { d with cla := andNot32 d.cla (d.en k &&& pow2 s) }
theorem upd_lt {f : Nat → Nat} {n i v B : Nat} (hf : ∀ j, j < n → f j < B) (hv : v < B) : ∀ j, j < n → upd f i v j < B := by
  intro j hj; unfold upd; split
  · exact hv
  · exact hf j hj
theorem place_cases (off : Int) : placeOf off = (0, 0) ∨ (∃ k : Nat, 1 ≤ k ∧ k < 8 ∧ placeOf off = (1, (k : Int))) ∨ placeOf off = (2, 0) ∨ (∃ k : Nat, k < 2 ∧ placeOf off = (3, (k : Int))) ∨ (∃ k : Nat, k < 2 ∧ placeOf off = (4, (k : Int))) ∨ (∃ k : Nat, k < 2 ∧ placeOf off = (5, (k : Int))) := by
  by_cases h4096 : off = 4096
  · subst h4096; exact .inr (.inr (.inl rfl))
  by_cases h8192 : off = 8192
  · subst h8192; exact .inr (.inr (.inr (.inl ⟨0, by omega, rfl⟩)))
  by_cases h8320 : off = 8320
  · subst h8320; exact .inr (.inr (.inr (.inl ⟨1, by omega, rfl⟩)))
  by_cases h2097152 : off = 2097152
  · subst h2097152; exact .inr (.inr (.inr (.inr (.inl ⟨0, by omega, rfl⟩))))
  by_cases h2101248 : off = 2101248
  · subst h2101248; exact .inr (.inr (.inr (.inr (.inl ⟨1, by omega, rfl⟩))))
  by_cases h2097156 : off = 2097156
  · subst h2097156; exact .inr (.inr (.inr (.inr (.inr ⟨0, by omega, rfl⟩))))
  by_cases h2101252 : off = 2101252
  · subst h2101252; exact .inr (.inr (.inr (.inr (.inr ⟨1, by omega, rfl⟩))))
  by_cases h4 : off = 4
  · subst h4; exact .inr (.inl ⟨1, by omega, by omega, rfl⟩)
  by_cases h8 : off = 8
  · subst h8; exact .inr (.inl ⟨2, by omega, by omega, rfl⟩)
  by_cases h12 : off = 12
  · subst h12; exact .inr (.inl ⟨3, by omega, by omega, rfl⟩)
  by_cases h16 : off = 16
  · subst h16; exact .inr (.inl ⟨4, by omega, by omega, rfl⟩)
  by_cases h20 : off = 20
  · subst h20; exact .inr (.inl ⟨5, by omega, by omega, rfl⟩)
  by_cases h24 : off = 24
  · subst h24; exact .inr (.inl ⟨6, by omega, by omega, rfl⟩)
  by_cases h28 : off = 28
  · subst h28; exact .inr (.inl ⟨7, by omega, by omega, rfl⟩)
  exact .inl (by unfold placeOf; rw [if_neg h4096, if_neg h8192, if_neg h8320, if_neg h2097152, if_neg h2101248, if_neg h2097156, if_neg h2101252, if_neg h4, if_neg h8, if_neg h12, if_neg h16, if_neg h20, if_neg h24, if_neg h28])
/-- a register read: the number, the error, what is then -/
def Dev.read (d : Dev) (off size : Int) : Nat × Int × Dev :=
  if size = 4 then
    if (placeOf off).1 = 1 then (d.pr (placeOf off).2.toNat, 0, d)
    else if (placeOf off).1 = 2 then (d.pend, 0, d)
    else if (placeOf off).1 = 3 then (d.en (placeOf off).2.toNat, 0, d)
    else if (placeOf off).1 = 4 then (d.th (placeOf off).2.toNat, 0, d)
    else if (placeOf off).1 = 5 then (d.best (placeOf off).2.toNat, 0, if d.best (placeOf off).2.toNat = 0 then d else d.claim (d.best (placeOf off).2.toNat))
    else (0, 6, d)
  else (0, 6, d)
/-- a register written: the error, what is then -/
def Dev.write (d : Dev) (off size : Int) (v : Nat) : Int × Dev :=
  if size = 4 then
    if (placeOf off).1 = 1 then (0, { d with pr := upd d.pr (placeOf off).2.toNat (and7 (lo32 v)) })
    else if (placeOf off).1 = 3 then (0, { d with en := upd d.en (placeOf off).2.toNat (and254 (lo32 v)) })
    else if (placeOf off).1 = 4 then (0, { d with th := upd d.th (placeOf off).2.toNat (and7 (lo32 v)) })
    else if (placeOf off).1 = 5 then (0, if 1 ≤ lo32 v ∧ lo32 v ≤ 7 then d.complete (placeOf off).2.toNat (lo32 v) else d)
    else (6, d)
  else (6, d)
theorem Dev.read_ok (d : Dev) (hd : d.Ok) (off size : Int) : (d.read off size).2.2.Ok ∧ (d.read off size).1 < 2 ^ 32 := by
  unfold Dev.read
  by_cases hs : size = 4
  · rw [if_pos hs]
    rcases place_cases off with h | ⟨k, h1, h2, h⟩ | h | ⟨k, h2, h⟩ | ⟨k, h2, h⟩ | ⟨k, h2, h⟩ <;> simp only [h, Int.toNat_natCast, if_pos, if_neg, reduceIte, Int.reduceEq]
    · exact ⟨hd, by omega⟩
    · exact ⟨hd, hd.pr k h2⟩
    · exact ⟨hd, hd.pend⟩
    · exact ⟨hd, hd.en k h2⟩
    · exact ⟨hd, hd.th k h2⟩
    · have := d.best_le k
      refine ⟨?_, by omega⟩
      split
      · exact hd
      · exact d.claim_ok _ hd this
  · rw [if_neg hs]; exact ⟨hd, by omega⟩
theorem Dev.write_ok (d : Dev) (hd : d.Ok) (off size : Int) (v : Nat) : (d.write off size v).2.Ok := by
  unfold Dev.write
  by_cases hs : size = 4
  · rw [if_pos hs]
    have a7 := and7_lt (lo32 v)
    have a254 := and254_lt (lo32 v)
    rcases place_cases off with h | ⟨k, h1, h2, h⟩ | h | ⟨k, h2, h⟩ | ⟨k, h2, h⟩ | ⟨k, h2, h⟩ <;> simp only [h, Int.toNat_natCast, if_pos, if_neg, reduceIte, Int.reduceEq]
    · exact hd
    · exact ⟨upd_lt hd.pr (by omega), hd.pend, hd.cla, hd.en, hd.th⟩
    · exact hd
    · exact ⟨hd.pr, hd.pend, hd.cla, upd_lt hd.en (by omega), hd.th⟩
    · exact ⟨hd.pr, hd.pend, hd.cla, hd.en, upd_lt hd.th (by omega)⟩
    · split
      · exact ⟨hd.pr, hd.pend, andNot32_lt _ hd.cla, hd.en, hd.th⟩
      · exact hd
  · rw [if_neg hs]; exact hd
end Go.Proofs.YtkogjjeoihnjpaaGreat
end
section
set_option linter.unusedVariables false
set_option linter.unusedSimpArgs false
namespace Go.Proofs.YtkogjjeoihnjpaaGreat
open Go.RowKit

/-- the cells of block g -/
def rowOf (w : World) (g : Nat) : Array Value := match w.heap[g]? with | some (.cells c _ _) => c | _ => #[]
/-- block g has n cells, none of them frozen -/
def rowIs (w : World) (g n : Nat) : Bool := match w.heap[g]? with | some (.cells c _ (lo, hi)) => c.size == n && lo == 0 && hi == 0 | _ => false
def loadS (t : TypeId) (x : Value) : Sem Value := Instr.loadAt t x
def storeS (t : TypeId) (x v : Value) : Sem Unit := Instr.storeAt t x v
theorem rowIs_of {w : World} {g : Nat} {C : Array Value} {t : TypeId} (h : w.heap[g]? = some (.cells C t (0, 0))) : rowIs w g C.size = true := by simp [rowIs, h]
theorem rowOf_of {w : World} {g : Nat} {C : Array Value} {t : TypeId} {fz : Nat × Nat} (h : w.heap[g]? = some (.cells C t fz)) : rowOf w g = C := by simp [rowOf, h]
theorem rowIs_elim {w : World} {g n : Nat} (h : rowIs w g n = true) : ∃ t, w.heap[g]? = some (.cells (rowOf w g) t (0, 0)) ∧ (rowOf w g).size = n := by
  unfold rowIs at h
  split at h
  · rename_i c t lo hi hh
    simp at h
    obtain ⟨⟨h1, h2⟩, h3⟩ := h
    subst h2 h3
    exact ⟨t, by rw [rowOf_of hh]; exact hh, by rw [rowOf_of hh]; exact h1⟩
  · cases h
theorem run_loadS (P : Program) (ty : TypeId) (d : TypeDesc) (n : Nat) (hu : P.underlying ty = some d) (hd : (match d with | .struct _ | .array _ _ => true | _ => false) = true) (hi : (P.info? ty).map (·.size) = some n)
    (w : World) (g : Nat) (h : rowIs w g n = true) : (loadS ty (.pointer (some ⟨g, 0, none⟩))).run P w = .ok (.agg (rowOf w g)) w := by
  obtain ⟨t, hh, hs⟩ := rowIs_elim h
  have := run_loadVar_row (P := P) w g t ty (rowOf w g) (0, 0) d hh hu hd (by rw [hs]; exact hi)
  simp only [loadS, Instr.loadAt, Instr.sureAddr, Sem.run_bind, Sem.run_pure, Result.andThen_ok, this]
theorem run_storeS (P : Program) (ty : TypeId) (n : Nat) (hi : (P.info? ty).map (·.size) = some n)
    (w : World) (g : Nat) (C : Array Value) (h : rowIs w g n = true) (hC : C.size = n) (h1 : C.all (·.oneCell') = true) : (storeS ty (.pointer (some ⟨g, 0, none⟩)) (.agg C)).run P w = .ok () (w.setRow g C) := by
  obtain ⟨t, hh, hs⟩ := rowIs_elim h
  have := run_storeVar_row (P := P) w g t ty (rowOf w g) C hh (by rw [hC]; exact hi) (by rw [hC]; exact hs) h1
  simp only [storeS, Instr.storeAt, Instr.sureAddr, Sem.run_bind, Sem.run_pure, Result.andThen_ok, this]

/-! what a world's steps do to rows -/
theorem row_alloc_new (w : World) (C : Array Value) (t : TypeId) (fz : Nat × Nat) : rowOf (w.alloc (.cells C t fz)) w.heap.size = C := rowOf_of (blk_alloc w _)
theorem row_alloc_old (w : World) (o : Obj) (g : Nat) (h : g < w.heap.size) : rowOf (w.alloc o) g = rowOf w g := by unfold rowOf; rw [blk_alloc_old w o g h]
theorem row_drew (w : World) (g : Nat) : rowOf w.drew g = rowOf w g := rfl
theorem row_drewN (w : World) (n g : Nat) : rowOf (w.drewN n) g = rowOf w g := rfl
theorem is_alloc_new (w : World) (C : Array Value) (t : TypeId) (n : Nat) : rowIs (w.alloc (.cells C t)) w.heap.size n = (C.size == n) := by unfold rowIs; rw [blk_alloc]; simp
theorem is_alloc_old (w : World) (o : Obj) (g n : Nat) (h : g < w.heap.size) : rowIs (w.alloc o) g n = rowIs w g n := by unfold rowIs; rw [blk_alloc_old w o g h]
theorem is_drew (w : World) (g n : Nat) : rowIs w.drew g n = rowIs w g n := rfl
theorem is_drewN (w : World) (k g n : Nat) : rowIs (w.drewN k) g n = rowIs w g n := rfl
theorem row_setCell (w : World) (b o : Nat) (v : Value) (g : Nat) : rowOf (w.setCell ⟨b, o, none⟩ v) g = if b = g then (rowOf w g).setIfInBounds o v else rowOf w g := by
  by_cases h : b = g
  · subst h
    rw [if_pos rfl]
    unfold rowOf
    simp only [World.setCell, Array.getElem?_modify, if_true]
    cases hh : w.heap[b]? with
    | none => simp
    | some ob => cases ob <;> simp
  · rw [if_neg h]
    unfold rowOf
    rw [blk_set_ne _ _ h]
theorem is_setCell (w : World) (a : Addr) (v : Value) (g n : Nat) : rowIs (w.setCell a v) g n = rowIs w g n := by
  by_cases h : a.block = g
  · subst h
    unfold rowIs
    simp only [World.setCell, Array.getElem?_modify, if_true]
    cases hh : w.heap[a.block]? with
    | none => simp
    | some ob => cases ob <;> simp; split <;> simp
  · unfold rowIs
    rw [blk_set_ne _ _ h]
theorem row_setRow_same (w : World) (g n : Nat) (C : Array Value) (h : rowIs w g n = true) : rowOf (w.setRow g C) g = C := by
  obtain ⟨t, hh, _⟩ := rowIs_elim h
  exact rowOf_of (setRow_heap w g _ C t (0, 0) hh)
theorem row_setRow_other (w : World) (g k : Nat) (C : Array Value) (h : k ≠ g) : rowOf (w.setRow g C) k = rowOf w k := by unfold rowOf; rw [setRow_other w g k C h]
theorem is_setRow_other (w : World) (g k n : Nat) (C : Array Value) (h : k ≠ g) : rowIs (w.setRow g C) k n = rowIs w k n := by unfold rowIs; rw [setRow_other w g k C h]
theorem is_setRow_same (w : World) (g m n : Nat) (C : Array Value) (h : rowIs w g m = true) : rowIs (w.setRow g C) g n = (C.size == n) := by
  obtain ⟨t, hh, _⟩ := rowIs_elim h
  simp [rowIs, setRow_heap w g _ C t (0, 0) hh]
/-- a row stored into the block laid last: in that block's own literal -/
theorem setRow_alloc_new (w : World) (C D : Array Value) (t : TypeId) (fz : Nat × Nat) : (w.alloc (.cells C t fz)).setRow w.heap.size D = w.alloc (.cells D t fz) := by
  simp only [World.setRow, World.alloc]
  congr 1
  apply Array.ext_getElem?
  intro i
  rw [Array.getElem?_modify, Array.getElem?_push, Array.getElem?_push]
  by_cases h : w.heap.size = i
  · subst h; simp
  · rw [if_neg h, if_neg (by omega), if_neg (by omega)]
/-- the cells of an object -/
def objRow : Obj → Array Value | .cells c _ _ => c | _ => #[]
def objIs (n : Nat) : Obj → Bool | .cells c _ (lo, hi) => c.size == n && lo == 0 && hi == 0 | _ => false
theorem objRow_cells (C : Array Value) (t : TypeId) (fz : Nat × Nat) : objRow (.cells C t fz) = C := rfl
theorem objIs_cells (n : Nat) (C : Array Value) (t : TypeId) : objIs n (.cells C t) = (C.size == n) := by simp [objIs]
theorem row_alloc (w : World) (o : Obj) (g : Nat) : rowOf (w.alloc o) g = if g = w.heap.size then objRow o else rowOf w g := by
  by_cases h : g = w.heap.size
  · subst h; rw [if_pos rfl]; unfold rowOf; rw [blk_alloc]; cases o <;> rfl
  · rw [if_neg h]
    unfold rowOf
    have : (w.alloc o).heap[g]? = w.heap[g]? := by
      show (w.heap.push o)[g]? = _
      rw [Array.getElem?_push, if_neg h]
    rw [this]
theorem is_alloc (w : World) (o : Obj) (g n : Nat) : rowIs (w.alloc o) g n = if g = w.heap.size then objIs n o else rowIs w g n := by
  by_cases h : g = w.heap.size
  · subst h; rw [if_pos rfl]; unfold rowIs; rw [blk_alloc]; cases o <;> rfl
  · rw [if_neg h]
    unfold rowIs
    have : (w.alloc o).heap[g]? = w.heap[g]? := by
      show (w.heap.push o)[g]? = _
      rw [Array.getElem?_push, if_neg h]
    rw [this]
/-- each value is of one cell -/
def oneAll (C : Array Value) : Bool := C.all (·.oneCell')
/-- a row that fills n cells -/
def stOk (n : Nat) (C : Array Value) : Bool := C.size == n && C.all (·.oneCell')
theorem run_storeS' (P : Program) (ty : TypeId) (n : Nat) (hi : (P.info? ty).map (·.size) = some n)
    (w : World) (g : Nat) (C : Array Value) (h : rowIs w g n = true) (hC : stOk n C = true) : (storeS ty (.pointer (some ⟨g, 0, none⟩)) (.agg C)).run P w = .ok () (w.setRow g C) := by
  simp only [stOk, Bool.and_eq_true, beq_iff_eq] at hC
  exact run_storeS P ty n hi w g C h hC.1 hC.2
theorem run_loadV (P : Program) (ty : TypeId) (d : TypeDesc) (n : Nat) (hu : P.underlying ty = some d) (hd : (match d with | .struct _ | .array _ _ => true | _ => false) = true) (hi : (P.info? ty).map (·.size) = some n)
    (w : World) (g : Nat) (C : Array Value) (h : rowIs w g n = true) (hC : rowOf w g = C) : (loadVar ty ⟨g, 0, none⟩).run P w = .ok (.agg C) w := by
  obtain ⟨t, hh, hs⟩ := rowIs_elim h
  have := run_loadVar_row (P := P) w g t ty (rowOf w g) (0, 0) d hh hu hd (by rw [hs]; exact hi)
  rw [this, hC]
section
variable {fn : Func} {a p b : Tmp} {ty : TypeId} (tmps : Array Value) (P : Program) (w : World) (g : Nat) (C : Array Value)
  (hp : tmps.getD p undef = .pointer (some ⟨g, 0, none⟩)) (hl : (loadVar ty ⟨g, 0, none⟩).run P w = .ok (.agg C) w)
include hp hl
theorem res_c (h : fn.results = #[.cell p ty]) : (results fn tmps).run P w = .ok (.agg C) w := by
  have hp' : tmps[p]?.getD undef = .pointer (some ⟨g, 0, none⟩) := by simpa using hp
  simp [results, h, hp', asAddr, hl]
theorem res_ct (h : fn.results = #[.cell p ty, .tmp b]) : (results fn tmps).run P w = .ok (.tuple #[.agg C, tmps.getD b undef]) w := by
  have hp' : tmps[p]?.getD undef = .pointer (some ⟨g, 0, none⟩) := by simpa using hp
  simp [results, h, hp', asAddr, hl]
theorem res_tct (h : fn.results = #[.tmp a, .cell p ty, .tmp b]) : (results fn tmps).run P w = .ok (.tuple #[tmps.getD a undef, .agg C, tmps.getD b undef]) w := by
  have hp' : tmps[p]?.getD undef = .pointer (some ⟨g, 0, none⟩) := by simpa using hp
  simp [results, h, hp', asAddr, hl]
end
/-! quiet calls behind draws -/
theorem q_same {P : Program} {f : FuncId} {args : Array Value} {w : World} {a n : Nat} {v : Value} (h : Calls P f args (w.drewN (a + n)) fun e w' => e = .returned v ∧ w' = w.drewN (a + n)) :
    Calls P f args (w.drewN (a + n)) fun e w' => e = .returned v ∧ ∃ m, w' = w.drewN (a + m) := h.mono fun _ _ hh => ⟨hh.1, n, hh.2⟩
theorem q_draws {P : Program} {f : FuncId} {args : Array Value} {w : World} {a n : Nat} {v : Value} (h : Calls P f args (w.drewN (a + n)) fun e w' => e = .returned v ∧ ∃ m, w' = (w.drewN (a + n)).drewN m) :
    Calls P f args (w.drewN (a + n)) fun e w' => e = .returned v ∧ ∃ m, w' = w.drewN (a + m) := h.mono fun _ _ hh => by
  obtain ⟨h1, m, h2⟩ := hh
  exact ⟨h1, n + m, by rw [h2, World.drewN_drewN, Nat.add_assoc]⟩
end Go.Proofs.YtkogjjeoihnjpaaGreat
end
section
set_option linter.unusedVariables false
set_option linter.unusedSimpArgs false
namespace Go.Proofs.YtkogjjeoihnjpaaGreat
open Go.RowKit
set_option maxRecDepth 100000 in
set_option maxHeartbeats 2000000 in
theorem copy_bytes (a : Option Addr) (m c : Nat) (l : List Int) (w : World) (h : IsB w a m l) (hm : (m : Int) ≤ 140737488355328) :
    Calls Tryz.prog 36 #[.slice a m c] w fun e w' => ∃ v, e = .returned v ∧ w'.ownsRow w.heap.size 5 1 v m (l.map (Value.int .u8)) ∧ Below w.heap.size w w' := by
  have hsrc : Hid (SrcIs w a m (l.map (Value.int .u8))) := by
    refine ⟨by rw [List.length_map]; exact h.hlen, h.cell.imp id ?_⟩
    rintro ⟨b, o, rfl, hc⟩
    refine ⟨b, o, rfl, fun i hi => ?_⟩
    have hl := h.hlen
    rw [hc i hi]
    simp [List.getD, hl, hi]
  have hone : Hid (∀ u ∈ l.map (Value.int .u8), u.oneCell' = true) := by intro u hu; simp at hu; obtain ⟨_, _, rfl⟩ := hu; rfl
  clear h
  go_enter Tryz.func36, Tryz.ntmps36
  go_wp2_with (at_builtin; refine wpList_app rfl _ _ 22 rfl w.heap.size 5 (.int .u8 0) 1 Tryz.underlying22 A_info5 rfl (.slice none 0 0) 0 [] rfl (World.ownsRow_nil _ _ _ _) a m c (l.map (Value.int .u8)) rfl hsrc.out hone.out (by omega) (by unfold maxLen; omega) (Nat.le_refl _) ?_; intro v' w2 hown hg _)
  all_goals
    have HO := Lib.hid hown
    have HG := Lib.hid hg
    clear hown hg
    go_ret
    refine ⟨v', rfl, by have := HO.out; simpa using this, (Below.refl _ _).grown HG.out (Nat.le_refl _) (by intro k hk; cases hk)⟩
end Go.Proofs.YtkogjjeoihnjpaaGreat
end
section
set_option linter.unusedVariables false
set_option linter.unusedSimpArgs false
namespace Go.Proofs.YtkogjjeoihnjpaaGreat
open Go.RowKit
theorem wf_u8' {a : Int} (h : (Lit.int .u8 a).wf = true) : 0 ≤ a ∧ a ≤ 255 := by simpa [Lit.wf, IntKind.min, IntKind.max, IntKind.signed, IntKind.bits] using h
theorem wf_u64' {a : Int} (h : (Lit.int .u64 a).wf = true) : 0 ≤ a ∧ a ≤ 18446744073709551615 := by simpa [Lit.wf, IntKind.min, IntKind.max, IntKind.signed, IntKind.bits] using h
theorem wf_i64' {a : Int} (h : (Lit.int .i64 a).wf = true) : -9223372036854775808 ≤ a ∧ a ≤ 9223372036854775807 := by simpa [Lit.wf, IntKind.min, IntKind.max, IntKind.signed, IntKind.bits] using h
/-- the first n numbers of z -/
def listOf (z : Nat → Int) (n : Nat) : List Int := (List.range n).map z
theorem listOf_len (z : Nat → Int) (n : Nat) : (listOf z n).length = n := by simp [listOf]
theorem listOf_getD (z : Nat → Int) (n i : Nat) (h : i < n) : (listOf z n).getD i 0 = z i := by simp [listOf, List.getD, h]
theorem argB {w : World} {a : Option Addr} {len cap : Nat} {z : Nat → Int} (h : ArgRow w a len cap (fun i => .int .u8 (z i))) (hz : ∀ i, (Lit.int .u8 (z i)).wf = true) {n : Nat} (hn : n ≤ cap) : IsB w a n (listOf z n) := by
  refine ⟨listOf_len _ _, fun x hx => ?_, ?_⟩
  · simp only [listOf, List.mem_map] at hx
    obtain ⟨i, _, rfl⟩ := hx
    exact wf_u8' (hz i)
  · rcases h.form with h0 | ⟨b, o, rfl, hb⟩
    · exact .inl ⟨h0, by have := h.nil h0; omega⟩
    · right
      refine ⟨b, o, rfl, fun i hi => ?_⟩
      obtain ⟨b', o', h1, _, h3⟩ := h.row (by omega)
      cases h1
      rw [h3 i (by omega), listOf_getD _ _ _ hi]
/-- an argument's cells lie in none of the blocks that are made since -/
theorem ArgRow.apart {w : World} {a : Option Addr} {len cap : Nat} {V : Nat → Value} (h : ArgRow w a len cap V) {S : Nat → Prop} (hS : ∀ g, S g → w.heap.size ≤ g) : Apart S a := by
  rintro b o s rfl hb
  rcases h.form with h0 | ⟨b', o', h1, h2⟩
  · cases h0
  · cases h1
    have := hS b hb
    omega
end Go.Proofs.YtkogjjeoihnjpaaGreat
end
section
set_option linter.unusedVariables false
set_option linter.unusedSimpArgs false
namespace Go.Proofs.YtkogjjeoihnjpaaGreat
open Go.RowKit
/-- a memory with an image, in new blocks -/
def Loaded (w : World) (n : Nat) (l : List Int) (m : Nat) (e : Ending) (w' : World) : Prop :=
  ∃ b S, e = .returned (.tuple #[.pointer (some ⟨b, 0, none⟩), .int .i64 0]) ∧ RamAt w' b n (putTo (fun _ => 0) 0 (fun i => (l.getD i 0).toNat) (fun _ => true) m) S ∧ (∀ g, S g → w.heap.size ≤ g) ∧ w.heap.size ≤ b ∧ Below w.heap.size w w'
/-- no memory, and that error -/
def NoLoad (w : World) (k : Int) (e : Ending) (w' : World) : Prop := e = .returned (.tuple #[.pointer none, .int .i64 k]) ∧ Below w.heap.size w w'
set_option maxRecDepth 100000 in
set_option maxHeartbeats 2000000 in
theorem rom_load_arg (n : Int) (h : n < 4 ∨ 256 < n) (a : Option Addr) (m c : Nat) (w : World) : Calls Tryz.prog 78 #[.int .i64 n, .slice a m c] w (NoLoad w 1) := by
  have H := Lib.hid (ram_new_arg n h w)
  have HB := Lib.hid (Below.refl w.heap.size w)
  clear h
  go_enter Tryz.func78, Tryz.ntmps78
  go_wp2_with fail
  refine H.out.mono ?_
  rintro e w1 ⟨rfl, rfl⟩
  go_wp2_with fail
  go_ret2
  exact ⟨rfl, HB.out⟩
set_option maxRecDepth 100000 in
set_option maxHeartbeats 2000000 in
theorem rom_load_full (n : Nat) (h4 : 4 ≤ n) (h256 : n ≤ 256) (a : Option Addr) (m c : Nat) (hm : (n : Int) * 4096 < m) (hm2 : (m : Int) ≤ 9223372036854775807) (w : World) : Calls Tryz.prog 78 #[.int .i64 n, .slice a m c] w (NoLoad w 3) := by
  have h1 : (4 : Int) ≤ n := by omega
  have h2 : (n : Int) ≤ 256 := by omega
  have hN := Lib.hid (And.intro h4 h256)
  clear h4 h256
  go_enter Tryz.func78, Tryz.ntmps78
  go_wp2_with fail
  refine (ram_new n hN.out.1 hN.out.2 w).mono ?_
  rintro e w1 ⟨b, S, rfl, hat, hS, hb, hw⟩
  have HW := Lib.hid hw
  clear hat hw hS hb
  go_wp2_with fail
  go_ret2
  exact ⟨rfl, HW.out⟩
set_option maxRecDepth 100000 in
set_option maxHeartbeats 2000000 in
theorem rom_load_ok (n : Nat) (h4 : 4 ≤ n) (h256 : n ≤ 256) (a : Option Addr) (m c : Nat) (hm : (m : Int) ≤ (n : Int) * 4096) (w : World) (l : List Int) (hl : IsB w a m l) (hp : ∀ S : Nat → Prop, (∀ g, S g → w.heap.size ≤ g) → Apart S a) :
    Calls Tryz.prog 78 #[.int .i64 n, .slice a m c] w (Loaded w n l m) := by
  have h1 : (4 : Int) ≤ n := by omega
  have h2 : (n : Int) ≤ 256 := by omega
  have hN := Lib.hid (And.intro h4 h256)
  have HL := Lib.hid hl
  have HP := Lib.hid hp
  have HM := Lib.hid (show ramAll n 2147483648 m = true by
    simp only [ramAll, isRam, Bool.or_eq_true, Bool.and_eq_true, decide_eq_true_eq]
    omega)
  clear h4 h256 hl hp
  go_enter Tryz.func78, Tryz.ntmps78
  go_wp2_with fail
  refine (ram_new n hN.out.1 hN.out.2 w).mono ?_
  rintro e w1 ⟨b, S, rfl, hat, hS, hb, hw⟩
  have HW := Lib.hid hw
  have H := Lib.hid hat
  have HS := Lib.hid hS
  have HBB := Lib.hid hb
  have HL1 := Lib.hid (isB_turned HL.out (Turned.of_below HW.out (fun _ => False)) (fun _ _ _ _ e => e))
  clear hat hw hS hb
  go_wp2_with fail
  refine (ram_write_ok H.out 2147483648 (by omega) (by omega) a m c HM.out l HL1.out (HP.out S HS.out)).mono ?_
  rintro e w2 ⟨rfl, hto⟩
  obtain ⟨S2, hat2, ht2, hs2⟩ := hto
  have HS2 : Hid (∀ g, S2 g → w.heap.size ≤ g) := fun g hg => by
    rcases hs2 g hg with h | h
    · exact HS.out g h
    · have := HW.out.size; omega
  have HW2 : Hid (Below w.heap.size w w2) := HW.out.trans (ht2.below HW.out.size HS.out)
  have H2 := Lib.hid hat2
  clear ht2 hs2 hat2 H HS HW
  go_wp2_with fail
  go_ret2
  exact ⟨b, S2, rfl, H2.out, HS2.out, HBB.out, HW2.out⟩
theorem drewN_below (w : World) (k : Nat) : Below w.heap.size w (w.drewN k) := ⟨rfl, rfl, rfl, Nat.le_refl _, fun _ _ => rfl⟩
end Go.Proofs.YtkogjjeoihnjpaaGreat
end
section
set_option linter.unusedVariables false
set_option linter.unusedSimpArgs false
namespace Go.Proofs.YtkogjjeoihnjpaaGreat
open Go.RowKit
set_option maxRecDepth 100000 in
set_option maxHeartbeats 1000000 in
theorem ref_read (off n : Nat) (h : off + n ≤ 4096) (w : World) :
    Calls Tryz.prog 124 #[.int .u64 off, .int .i64 n] w (BytesOk w n (romL off n)) := by
  have h1 : (off : Int) ≤ 4096 := by omega
  have h2 : (n : Int) ≤ 4096 - off := by omega
  have H := Lib.hid h; clear h
  go_enter Tryz.func124, Tryz.ntmps124
  go_wp2
  go_loopw [6, 7] (fun v i wr => ∃ k : Nat, k ≤ n ∧ i = .int .i64 k ∧ wr.ownsRow w.heap.size 5 1 v k ((romL off k).map (Value.int .u8)) ∧ Below w.heap.size w wr) (fun _ i _ => n - (intOf i).toNat)
  case atStart => exact ⟨0, by omega, rfl, World.ownsRow_nil _ _ _ _, Below.refl _ _⟩
  case round =>
    obtain ⟨k, hk, rfl, hown, hb⟩ := hrel
    by_cases hlt : k < n
    · have HO := Lib.hid hown; have HB := Lib.hid hb; clear hown hb
      go_wp2_with fail
      refine (ref_at _ (by omega) _).mono ?_
      rintro e w1 ⟨rfl, hb1⟩
      have HO1 : Hid (w1.ownsRow w.heap.size 5 1 u6 k ((romL off k).map (Value.int .u8))) := own_below HO.out hb1
      have HB1 : Hid (Below w.heap.size w w1) := below_then HB.out hb1 HB.out.size
      clear hb1 HO HB
      have hby : Hid ((k + 1) * 1 ≤ 140737488355328) := by have := H.out; show _ ≤ _; omega
      have h63 : Hid (k + 1 ≤ maxLen) := by have := H.out; show _ ≤ _; unfold maxLen; omega
      have hba : Hid (w.heap.size ≤ (w1.alloc (.cells #[.int .u8 (romAt ((off : Int) + k).toNat)] 5)).heap.size) := Nat.le_trans HB1.out.size (by simp)
      go_wp2_with (at_builtin; refine wpList_app rfl _ _ 22 rfl w.heap.size 5 (.int .u8 0) 1 Tryz.underlying22 A_info5 rfl u6 k _ rfl (HO1.out.alloc _) _ 1 1 [.int .u8 (romAt ((off : Int) + k).toNat)] rfl (src_one _ _ _) (by intro u hu; simp at hu; subst hu; rfl) hby.out h63.out hba.out ?_; intro v' w2 hown hg _)
      have HO2 : Hid (w2.ownsRow w.heap.size 5 1 v' (k + 1) ((romL off (k + 1)).map (Value.int .u8))) := by
        rw [romL_snoc, List.map_append]; rw [show ((off : Int) + k).toNat = off + k by omega] at hown; exact hown
      have HB2 : Hid (Below w.heap.size w w2) := own_base (HO1.out.alloc _) hg (HB1.out.alloc HB1.out.size _) hba.out (Nat.le_refl _)
      clear hown hg
      go_wp2
      go_roundw
      case rel => exact ⟨k + 1, by omega, by go_num, HO2.out, HB2.out⟩
      case measure => simp [intOf]; omega
    · obtain rfl : k = n := by omega
      have HO : BytesOk w k (romL off k) (.returned (.tuple #[u6, .int .i64 0])) wr := by
        obtain ⟨a, c, rfl, hb'⟩ := bytes_own hown (romL_bd off k)
        exact ⟨a, c, rfl, hb', hb⟩
      have HO := Lib.hid HO; clear hown hb
      go_wp2
      go_ret2
      exact HO.out
end Go.Proofs.YtkogjjeoihnjpaaGreat
end
section
set_option linter.unusedVariables false
set_option linter.unusedSimpArgs false
namespace Go.Proofs.YtkogjjeoihnjpaaGreat
open Go.RowKit
noncomputable def csr0 : Array Value := (Tryz.prog.built 41 []).getD #[]
noncomputable def hart0 : Array Value := (Tryz.prog.built 43 [(0, .int .u64 4096), (1, .int .i64 3)]).getD #[]
theorem csr_built : Tryz.prog.built 41 [] = some csr0 := by kernel_rfl
theorem hart_built : Tryz.prog.built 43 [(0, .int .u64 4096), (1, .int .i64 3)] = some hart0 := by kernel_rfl
theorem hart_built2 : Tryz.prog.built 43 [(0, .int .u64 4096), (1, .int .i64 3), (3, .agg csr0)] = some hart0 := by kernel_rfl
theorem hart_neq (w : World) : (binOp .neq 43 (.agg hart0) (.agg hart0)).run Tryz.prog w = .ok (.bool false) w := by kernel_rfl
theorem csr_zero (w : World) : (zeroValue 41).run Tryz.prog w = .ok (.agg csr0) w := by kernel_rfl
noncomputable def zhart : Array Value := (Tryz.prog.built 43 []).getD #[]
theorem hart_zero (w : World) : (zeroValue 43).run Tryz.prog w = .ok (.agg zhart) w := by kernel_rfl

theorem csr_info : (Tryz.prog.info? 41).map (·.size) = some csr0.size := by kernel_rfl
theorem csr_one : csr0.all (·.oneCell') = true := by kernel_rfl
theorem hart_info : (Tryz.prog.info? 43).map (·.size) = some hart0.size := by kernel_rfl
theorem hart_one : hart0.all (·.oneCell') = true := by kernel_rfl
theorem hart_size : zhart.size = hart0.size := by kernel_rfl
set_option maxRecDepth 100000 in
set_option maxHeartbeats 1000000 in
theorem csr_reset (w : World) : Calls Tryz.prog 159 #[] w fun e w' => e = .returned (.agg csr0) ∧ Below w.heap.size w w' := by
  have hz := csr_zero
  go_enter Tryz.func159, Tryz.ntmps159
  go_wp2_with (refine wpList_store_row rfl 41 _ _ rfl w.heap.size csr0 rfl rfl 41 csr0 (blk_alloc _ _) csr_info rfl csr_one ?_)
  exact bodyPost_ret (results_cell_row rfl _ _ w.heap.size _ csr0 _ _ rfl (setRow_heap _ _ _ _ _ _ (blk_alloc _ _)) Tryz.underlying41 rfl csr_info) rfl ⟨rfl, below_setRow ((Below.refl _ _).alloc (Nat.le_refl _) _) (Nat.le_refl _) _⟩

set_option maxRecDepth 100000 in
set_option maxHeartbeats 1000000 in
theorem rom_reset (w : World) : Calls Tryz.prog 79 #[] w fun e w' => e = .returned (.agg hart0) ∧ Below w.heap.size w w' := by
  have hz := hart_zero
  go_enter Tryz.func79, Tryz.ntmps79
  go_wp2_with fail
  refine (csr_reset _).mono ?_
  rintro e w1 ⟨rfl, hb⟩
  have hh : w1.heap[w.heap.size]? = some (.cells zhart 43 (0, 0)) := (hb.block _ (by simp)).trans (blk_alloc _ _)
  have hb1 : Below w.heap.size w w1 := below_then ((Below.refl _ _).alloc (Nat.le_refl _) _) hb (by simp)
  have HH := Lib.hid hh; have HB := Lib.hid hb1; clear hb hh hb1
  go_wp2_with (first | (refine wpList_build rfl 43 _ rfl (Option.isSome_iff_exists.2 ⟨_, hart_built2⟩) ?_) | (refine wpList_store_row rfl 43 _ _ rfl w.heap.size hart0 rfl (congrArg Value.agg (congrArg (Option.getD · #[]) hart_built2)) 43 zhart HH.out hart_info hart_size hart_one ?_))
  exact bodyPost_ret (results_cell_row rfl _ _ w.heap.size _ hart0 _ _ rfl (setRow_heap _ _ _ _ _ _ HH.out) Tryz.underlying43 rfl hart_info) rfl ⟨rfl, below_setRow HB.out (Nat.le_refl _) _⟩

set_option maxRecDepth 100000 in
set_option maxHeartbeats 1000000 in
theorem ref_reset (w : World) : Calls Tryz.prog 80 #[] w fun e w' => e = .returned (.agg hart0) ∧ Below w.heap.size w w' := by
  have hz := hart_zero
  go_enter Tryz.func80, Tryz.ntmps80
  go_wp2_with (first | (refine wpList_build rfl 43 _ rfl (Option.isSome_iff_exists.2 ⟨_, hart_built⟩) ?_) | (refine wpList_store_row rfl 43 _ _ rfl w.heap.size hart0 rfl (congrArg Value.agg (congrArg (Option.getD · #[]) hart_built)) 43 zhart (blk_alloc _ _) hart_info hart_size hart_one ?_))
  exact bodyPost_ret (results_cell_row rfl _ _ w.heap.size _ hart0 _ _ rfl (setRow_heap _ _ _ _ _ _ (blk_alloc _ _)) Tryz.underlying43 rfl hart_info) rfl ⟨rfl, below_setRow ((Below.refl _ _).alloc (Nat.le_refl _) _) (Nat.le_refl _) _⟩
end Go.Proofs.YtkogjjeoihnjpaaGreat
end
