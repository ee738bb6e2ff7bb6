/- effect.Do, some operations. No condition. -/
import Derived.Test.YtkogjjeoihnjpaaGreatPack21
import Derived.KernelRfl
section
set_option linter.unusedVariables false
namespace Go.Proofs.YtkogjjeoihnjpaaGreat.Sx
open Go Go.RowKit
set_option maxRecDepth 100000
def c19 : E := .cmp .eql (.var (.ofNat 0) (.ofNat 4095) 76) (ln 2818)
def i19 : E := .cmp .eql (bit2 52) (ln 1)
def j19 : E := .cmp .eql (bit2 52) (ln 0)
theorem do19 : ∃ F, doS (mayK ++ [opK 19]) F := by
  obtain ⟨F1, h1⟩ := do_tells1 (mayK ++ [opK 19] ++ [(c19, true)]) (by kernel_rfl) (by kernel_rfl)
  obtain ⟨F2, h2⟩ := do_tells1 (mayK ++ [opK 19] ++ [(c19, false)] ++ [(i19, true)]) (by kernel_rfl) (by kernel_rfl)
  obtain ⟨F3, h3⟩ := do_tells1 (mayK ++ [opK 19] ++ [(c19, false)] ++ [(i19, false)] ++ [(j19, true)]) (by kernel_rfl) (by kernel_rfl)
  have h4 : doS (mayK ++ [opK 19] ++ [(c19, false)] ++ [(i19, false)] ++ [(j19, false)]) F3 := by
    intro args hi hk w
    have k1 := hk (i19, false) (by simp)
    have k2 := hk (j19, false) (by simp)
    simp only [i19, j19, bit2, tr_cmp, den_pl, vu, ln, den_lit, den_var, plD, cmpD, beq_eq_false_iff_ne] at k1 k2
    generalize (env0 args).i 52 = x at *
    simp only [Int.ofNat_eq_natCast] at k1 k2
    omega
  exact ⟨_, Tells.split _ h1 (Tells.split _ h2 (Tells.split _ h3 h4))⟩
end Go.Proofs.YtkogjjeoihnjpaaGreat.Sx
end
