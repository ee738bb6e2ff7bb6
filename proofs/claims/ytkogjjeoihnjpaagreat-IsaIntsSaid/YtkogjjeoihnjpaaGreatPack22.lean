/- effect.Do, some operations. No condition. -/
import Derived.Test.YtkogjjeoihnjpaaGreatPack21
import Derived.KernelRfl
section
set_option linter.unusedVariables false
namespace Go.Proofs.YtkogjjeoihnjpaaGreat.Sx
open Go Go.RowKit
set_option maxRecDepth 100000
theorem do0 : ∃ F, doS (mayK ++ [opK 0]) F := do_tells1 _ (by kernel_rfl) (by kernel_rfl)
theorem do1 : ∃ F, doS (mayK ++ [opK 1]) F := do_tells1 _ (by kernel_rfl) (by kernel_rfl)
theorem do2 : ∃ F, doS (mayK ++ [opK 2]) F := do_tells1 _ (by kernel_rfl) (by kernel_rfl)
theorem do3 : ∃ F, doS (mayK ++ [opK 3]) F := do_tells1 _ (by kernel_rfl) (by kernel_rfl)
theorem do4 : ∃ F, doS (mayK ++ [opK 4]) F := do_tells1 _ (by kernel_rfl) (by kernel_rfl)
end Go.Proofs.YtkogjjeoihnjpaaGreat.Sx
end
