/- Some ways of a run hold. No condition. Some ways of a run hold. No condition. Some ways of a run hold. No condition. Some ways of a run hold. No condition. -/
import Derived.Test.YtkogjjeoihnjpaaGreatPack20
import Derived.KernelRfl
section
set_option linter.unusedVariables false
namespace Go.Proofs.YtkogjjeoihnjpaaGreat.Sx
open Go Go.RowKit
set_option maxRecDepth 100000
theorem whr_same_tfftttfffftfffff : (T.go [true, false, false, true, true, true, false, false, false, false, true, false, false, false, false, false] trnT).every whrP = true := by kernel_rfl
end Go.Proofs.YtkogjjeoihnjpaaGreat.Sx
end
section
set_option linter.unusedVariables false
namespace Go.Proofs.YtkogjjeoihnjpaaGreat.Sx
open Go Go.RowKit
set_option maxRecDepth 100000
theorem whr_same_tfftffffftfff : (T.go [true, false, false, true, false, false, false, false, false, true, false, false, false] trnT).every whrP = true := by kernel_rfl
end Go.Proofs.YtkogjjeoihnjpaaGreat.Sx
end
section
set_option linter.unusedVariables false
namespace Go.Proofs.YtkogjjeoihnjpaaGreat.Sx
open Go Go.RowKit
set_option maxRecDepth 100000
theorem whr_same_tfftffffftfft : (T.go [true, false, false, true, false, false, false, false, false, true, false, false, true] trnT).every whrP = true := by kernel_rfl
theorem whr_same_tfftttfffftfft : (T.go [true, false, false, true, true, true, false, false, false, false, true, false, false, true] trnT).every whrP = true := by kernel_rfl
theorem whr_same_tfftttfffftttft : (T.go [true, false, false, true, true, true, false, false, false, false, true, true, true, false, true] trnT).every whrP = true := by kernel_rfl
end Go.Proofs.YtkogjjeoihnjpaaGreat.Sx
end
section
set_option linter.unusedVariables false
namespace Go.Proofs.YtkogjjeoihnjpaaGreat.Sx
open Go Go.RowKit
set_option maxRecDepth 100000
theorem whr_same_tfftffffftttft : (T.go [true, false, false, true, false, false, false, false, false, true, true, true, false, true] trnT).every whrP = true := by kernel_rfl
theorem whr_same_tfftfft : (T.go [true, false, false, true, false, false, true] trnT).every whrP = true := by kernel_rfl
theorem whr_same_tfftttfffftft : (T.go [true, false, false, true, true, true, false, false, false, false, true, false, true] trnT).every whrP = true := by kernel_rfl
theorem whr_same_tfftttft : (T.go [true, false, false, true, true, true, false, true] trnT).every whrP = true := by kernel_rfl
theorem whr_same_tfftfffffttf : (T.go [true, false, false, true, false, false, false, false, false, true, true, false] trnT).every whrP = true := by kernel_rfl
end Go.Proofs.YtkogjjeoihnjpaaGreat.Sx
end
