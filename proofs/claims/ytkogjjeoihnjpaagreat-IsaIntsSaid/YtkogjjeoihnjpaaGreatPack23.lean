/- effect.Do, some operations. No condition. -/
import Derived.Test.YtkogjjeoihnjpaaGreatPack21
import Derived.KernelRfl
section
set_option linter.unusedVariables false
namespace Go.Proofs.YtkogjjeoihnjpaaGreat.Sx
open Go Go.RowKit
set_option maxRecDepth 100000
theorem do8 : ∃ F, doS (mayK ++ [opK 8]) F := do_tells1 _ (by kernel_rfl) (by kernel_rfl)
theorem do9 : ∃ F, doS (mayK ++ [opK 9]) F := do_tells1 _ (by kernel_rfl) (by kernel_rfl)
theorem do10 : ∃ F, doS (mayK ++ [opK 10]) F := do_tells1 _ (by kernel_rfl) (by kernel_rfl)
theorem do11 : ∃ F, doS (mayK ++ [opK 11]) F := do_tells1 _ (by kernel_rfl) (by kernel_rfl)
theorem do12 : ∃ F, doS (mayK ++ [opK 12]) F := do_tells1 _ (by kernel_rfl) (by kernel_rfl)
end Go.Proofs.YtkogjjeoihnjpaaGreat.Sx
end
