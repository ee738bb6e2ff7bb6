/- effect.Do, some operations. No condition. -/
import Derived.Test.YtkogjjeoihnjpaaGreatPack21
import Derived.KernelRfl
section
set_option linter.unusedVariables false
namespace Go.Proofs.YtkogjjeoihnjpaaGreat.Sx
open Go Go.RowKit
set_option maxRecDepth 100000
theorem do7 : ∃ F, doS (mayK ++ [opK 7]) F := do_tells1 _ (by kernel_rfl) (by kernel_rfl)
theorem do15 : ∃ F, doS (mayK ++ [opK 15]) F := do_tells1 _ (by kernel_rfl) (by kernel_rfl)
end Go.Proofs.YtkogjjeoihnjpaaGreat.Sx
end
