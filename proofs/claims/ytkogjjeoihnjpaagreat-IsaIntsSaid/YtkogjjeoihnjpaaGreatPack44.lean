/- A machine's step: the run's ends are as they must be. No condition. -/
import Derived.Test.YtkogjjeoihnjpaaGreatPack33
import Derived.KernelRfl
section
namespace Go.Proofs.YtkogjjeoihnjpaaGreat.Sx
open Go Go.RowKit
set_option maxRecDepth 100000
theorem stp_res2 : stpT.every sres2 = true := by kernel_rfl
end Go.Proofs.YtkogjjeoihnjpaaGreat.Sx
end
