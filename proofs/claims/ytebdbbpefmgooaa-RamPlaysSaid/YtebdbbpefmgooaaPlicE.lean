/- What is written into the PLIC's registers, as numbers (plain Lean). No condition. -/
import Derived.Test.YtebdbbpefmgooaaPlicD
set_option linter.unusedVariables false
set_option linter.unusedSimpArgs false
namespace Go.Proofs.Ytebdbbpefmgooaa
open Go.RowKit
def lo32 (v : Nat) : Nat := v &&& 4294967295
def and7 (v : Nat) : Nat := v &&& 7
def and254 (v : Nat) : Nat := v &&& 254
theorem lo32_lt (v : Nat) : lo32 v < 2 ^ 32 := Nat.lt_of_le_of_lt Nat.and_le_right (by omega)
theorem and7_lt (v : Nat) : and7 v < 8 := Nat.lt_of_le_of_lt Nat.and_le_right (by omega)
theorem and254_lt (v : Nat) : and254 v < 255 := Nat.lt_of_le_of_lt Nat.and_le_right (by omega)
theorem lo32_i (v : Nat) (h : v < 2 ^ 64) : bits .and .u64 (v : Int) 4294967295 = (lo32 v : Int) := u64_and_nat v 4294967295 h (by omega)
theorem and7_i (v : Nat) (h : v < 2 ^ 32) : bits .and .u64 (v : Int) 7 = (and7 v : Int) := u64_and_nat v 7 (by omega) (by omega)
theorem and254_i (v : Nat) (h : v < 2 ^ 32) : bits .and .u64 (v : Int) 254 = (and254 v : Int) := u64_and_nat v 254 (by omega) (by omega)
theorem mod32_i (v : Nat) (h : v < 2 ^ 32) : (v : Int) % 4294967296 = (v : Int) := by omega
/-- the completion of source s in context k -/
def Dev.complete (d : Dev) (k s : Nat) : Dev := { d with cla := andNot32 d.cla (d.en k &&& pow2 s) }
theorem upd_lt {f : Nat → Nat} {n i v B : Nat} (hf : ∀ j, j < n → f j < B) (hv : v < B) : ∀ j, j < n → upd f i v j < B := by
  intro j hj; unfold upd; split
  · exact hv
  · exact hf j hj
theorem place_cases (off : Int) : placeOf off = (0, 0) ∨ (∃ k : Nat, 1 ≤ k ∧ k < 8 ∧ placeOf off = (1, (k : Int))) ∨ placeOf off = (2, 0) ∨ (∃ k : Nat, k < 2 ∧ placeOf off = (3, (k : Int))) ∨ (∃ k : Nat, k < 2 ∧ placeOf off = (4, (k : Int))) ∨ (∃ k : Nat, k < 2 ∧ placeOf off = (5, (k : Int))) := by
  by_cases h4096 : off = 4096
  · subst h4096; exact .inr (.inr (.inl rfl))
  by_cases h8192 : off = 8192
  · subst h8192; exact .inr (.inr (.inr (.inl ⟨0, by omega, rfl⟩)))
  by_cases h8320 : off = 8320
  · subst h8320; exact .inr (.inr (.inr (.inl ⟨1, by omega, rfl⟩)))
  by_cases h2097152 : off = 2097152
  · subst h2097152; exact .inr (.inr (.inr (.inr (.inl ⟨0, by omega, rfl⟩))))
  by_cases h2101248 : off = 2101248
  · subst h2101248; exact .inr (.inr (.inr (.inr (.inl ⟨1, by omega, rfl⟩))))
  by_cases h2097156 : off = 2097156
  · subst h2097156; exact .inr (.inr (.inr (.inr (.inr ⟨0, by omega, rfl⟩))))
  by_cases h2101252 : off = 2101252
  · subst h2101252; exact .inr (.inr (.inr (.inr (.inr ⟨1, by omega, rfl⟩))))
  by_cases h4 : off = 4
  · subst h4; exact .inr (.inl ⟨1, by omega, by omega, rfl⟩)
  by_cases h8 : off = 8
  · subst h8; exact .inr (.inl ⟨2, by omega, by omega, rfl⟩)
  by_cases h12 : off = 12
  · subst h12; exact .inr (.inl ⟨3, by omega, by omega, rfl⟩)
  by_cases h16 : off = 16
  · subst h16; exact .inr (.inl ⟨4, by omega, by omega, rfl⟩)
  by_cases h20 : off = 20
  · subst h20; exact .inr (.inl ⟨5, by omega, by omega, rfl⟩)
  by_cases h24 : off = 24
  · subst h24; exact .inr (.inl ⟨6, by omega, by omega, rfl⟩)
  by_cases h28 : off = 28
  · subst h28; exact .inr (.inl ⟨7, by omega, by omega, rfl⟩)
  exact .inl (by unfold placeOf; rw [if_neg h4096, if_neg h8192, if_neg h8320, if_neg h2097152, if_neg h2101248, if_neg h2097156, if_neg h2101252, if_neg h4, if_neg h8, if_neg h12, if_neg h16, if_neg h20, if_neg h24, if_neg h28])
/-- a register read: the number, the error, what is then -/
def Dev.read (d : Dev) (off size : Int) : Nat × Int × Dev :=
  if size = 4 then
    if (placeOf off).1 = 1 then (d.pr (placeOf off).2.toNat, 0, d)
    else if (placeOf off).1 = 2 then (d.pend, 0, d)
    else if (placeOf off).1 = 3 then (d.en (placeOf off).2.toNat, 0, d)
    else if (placeOf off).1 = 4 then (d.th (placeOf off).2.toNat, 0, d)
    else if (placeOf off).1 = 5 then (d.best (placeOf off).2.toNat, 0, if d.best (placeOf off).2.toNat = 0 then d else d.claim (d.best (placeOf off).2.toNat))
    else (0, 6, d)
  else (0, 6, d)
/-- a register written: the error, what is then -/
def Dev.write (d : Dev) (off size : Int) (v : Nat) : Int × Dev :=
  if size = 4 then
    if (placeOf off).1 = 1 then (0, { d with pr := upd d.pr (placeOf off).2.toNat (and7 (lo32 v)) })
    else if (placeOf off).1 = 3 then (0, { d with en := upd d.en (placeOf off).2.toNat (and254 (lo32 v)) })
    else if (placeOf off).1 = 4 then (0, { d with th := upd d.th (placeOf off).2.toNat (and7 (lo32 v)) })
    else if (placeOf off).1 = 5 then (0, if 1 ≤ lo32 v ∧ lo32 v ≤ 7 then d.complete (placeOf off).2.toNat (lo32 v) else d)
    else (6, d)
  else (6, d)
theorem Dev.read_ok (d : Dev) (hd : d.Ok) (off size : Int) : (d.read off size).2.2.Ok ∧ (d.read off size).1 < 2 ^ 32 := by
  unfold Dev.read
  by_cases hs : size = 4
  · rw [if_pos hs]
    rcases place_cases off with h | ⟨k, h1, h2, h⟩ | h | ⟨k, h2, h⟩ | ⟨k, h2, h⟩ | ⟨k, h2, h⟩ <;> simp only [h, Int.toNat_natCast, if_pos, if_neg, reduceIte, Int.reduceEq]
    · exact ⟨hd, by omega⟩
    · exact ⟨hd, hd.pr k h2⟩
    · exact ⟨hd, hd.pend⟩
    · exact ⟨hd, hd.en k h2⟩
    · exact ⟨hd, hd.th k h2⟩
    · have := d.best_le k
      refine ⟨?_, by omega⟩
      split
      · exact hd
      · exact d.claim_ok _ hd this
  · rw [if_neg hs]; exact ⟨hd, by omega⟩
theorem Dev.write_ok (d : Dev) (hd : d.Ok) (off size : Int) (v : Nat) : (d.write off size v).2.Ok := by
  unfold Dev.write
  by_cases hs : size = 4
  · rw [if_pos hs]
    have a7 := and7_lt (lo32 v)
    have a254 := and254_lt (lo32 v)
    rcases place_cases off with h | ⟨k, h1, h2, h⟩ | h | ⟨k, h2, h⟩ | ⟨k, h2, h⟩ | ⟨k, h2, h⟩ <;> simp only [h, Int.toNat_natCast, if_pos, if_neg, reduceIte, Int.reduceEq]
    · exact hd
    · exact ⟨upd_lt hd.pr (by omega), hd.pend, hd.cla, hd.en, hd.th⟩
    · exact hd
    · exact ⟨hd.pr, hd.pend, hd.cla, upd_lt hd.en (by omega), hd.th⟩
    · exact ⟨hd.pr, hd.pend, hd.cla, hd.en, upd_lt hd.th (by omega)⟩
    · split
      · exact ⟨hd.pr, hd.pend, andNot32_lt _ hd.cla, hd.en, hd.th⟩
      · exact hd
  · rw [if_neg hs]; exact hd
end Go.Proofs.Ytebdbbpefmgooaa
