/- Words of conditional stores and their kin. No condition. -/
import Derived.Test.YtkogjjeoihnjpaaGreatPack15
import Derived.KernelRfl
section
set_option linter.unusedVariables false
set_option linter.unusedSimpArgs false
namespace Go.Proofs.YtkogjjeoihnjpaaGreat.Sx
open Go Go.RowKit
set_option maxRecDepth 100000
theorem enc_mid0 : encT (instS 8 0 9 0 0 1 0 false) 1049747 = true := by kernel_rfl
theorem enc_mid1 : encT (instS 13 0 0 0 0 0 0 false) 115 = true := by kernel_rfl
theorem enc_mid2 : encT (instS 21 0 9 8 6 0 8 false) 409220271 = true := by kernel_rfl
theorem enc_mid3 : encT (instS 20 0 9 8 0 0 8 false) 268711087 = true := by kernel_rfl
theorem enc_mid4 : encT (instS 7 0 0 5 6 0 8 false) 6467619 = true := by kernel_rfl
theorem enc_lr4 : encT (instS 20 0 7 5 0 0 4 false) 268608431 = true := by kernel_rfl
theorem enc_sc4 : encT (instS 21 0 10 5 6 0 4 false) 409117999 = true := by kernel_rfl
theorem enc_lr8 : encT (instS 20 0 7 5 0 0 8 false) 268612527 = true := by kernel_rfl
theorem enc_sc8 : encT (instS 21 0 10 5 6 0 8 false) 409122095 = true := by kernel_rfl
end Go.Proofs.YtkogjjeoihnjpaaGreat.Sx
end
