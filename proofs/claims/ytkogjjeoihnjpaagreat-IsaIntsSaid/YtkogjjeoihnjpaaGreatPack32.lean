/- effect.Do, some operations. No condition. -/
import Derived.Test.YtkogjjeoihnjpaaGreatPack21
import Derived.KernelRfl
section
set_option linter.unusedVariables false
namespace Go.Proofs.YtkogjjeoihnjpaaGreat.Sx
open Go Go.RowKit
set_option maxRecDepth 100000
theorem do13_0 : ∃ F, doS (mayK ++ [opK 13] ++ [prK 0]) F := do_tells1 _ (by kernel_rfl) (by kernel_rfl)
theorem do13_1 : ∃ F, doS (mayK ++ [opK 13] ++ [prK 1]) F := do_tells1 _ (by kernel_rfl) (by kernel_rfl)
theorem do13_2 : ∃ F, doS (mayK ++ [opK 13] ++ [prK 2]) F := do_tells1 _ (by kernel_rfl) (by kernel_rfl)
theorem do13_3 : ∃ F, doS (mayK ++ [opK 13] ++ [prK 3]) F := do_tells1 _ (by kernel_rfl) (by kernel_rfl)
end Go.Proofs.YtkogjjeoihnjpaaGreat.Sx
end
