/- Words of stores and loads. No condition. -/
import Derived.Test.YtkogjjeoihnjpaaGreatPack15
import Derived.KernelRfl
section
set_option linter.unusedVariables false
set_option linter.unusedSimpArgs false
namespace Go.Proofs.YtkogjjeoihnjpaaGreat.Sx
open Go Go.RowKit
set_option maxRecDepth 100000
theorem enc_st0 : encT (instS 7 0 0 5 6 0 1 false) 6455331 = true := by kernel_rfl
theorem enc_st1 : encT (instS 7 0 0 5 6 0 2 false) 6459427 = true := by kernel_rfl
theorem enc_st2 : encT (instS 7 0 0 5 6 0 4 false) 6463523 = true := by kernel_rfl
theorem enc_st3 : encT (instS 7 0 0 5 6 0 8 false) 6467619 = true := by kernel_rfl
theorem enc_ld0u : encT (instS 6 0 7 5 0 0 1 false) 181123 = true := by kernel_rfl
theorem enc_ld0s : encT (instS 6 0 7 5 0 0 1 true) 164739 = true := by kernel_rfl
theorem enc_ld1u : encT (instS 6 0 7 5 0 0 2 false) 185219 = true := by kernel_rfl
theorem enc_ld1s : encT (instS 6 0 7 5 0 0 2 true) 168835 = true := by kernel_rfl
theorem enc_ld2u : encT (instS 6 0 7 5 0 0 4 false) 189315 = true := by kernel_rfl
theorem enc_ld2s : encT (instS 6 0 7 5 0 0 4 true) 172931 = true := by kernel_rfl
theorem enc_ld3s : encT (instS 6 0 7 5 0 0 8 true) 177027 = true := by kernel_rfl
end Go.Proofs.YtkogjjeoihnjpaaGreat.Sx
end
