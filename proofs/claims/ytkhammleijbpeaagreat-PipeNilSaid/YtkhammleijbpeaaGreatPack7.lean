/- The law's first test of the pipe, run on terms. No condition. -/
import Derived.Test.YtkhammleijbpeaaGreatPack6
section
set_option linter.unusedVariables false
set_option linter.unusedSimpArgs false
namespace Go.Proofs.YtkhammleijbpeaaGreat.Sx
open Go Go.RowKit
set_option maxRecDepth 100000
set_option maxHeartbeats 4000000 in
theorem awake_run : (xfn Tryz.prog tab.get memoOrcs 5000 100 4 [] hp1).every (fun a => a.1.isB true) = true := by kernel_rfl
def awOrc : Orc := memo0 4 true
theorem awOrc_ok (X : Ext) (ft : Ft) : OrcOk Tryz.prog X ft awOrc := memo0_ok tab_ok mixed memoOrcs_ok awake_run X ft
end Go.Proofs.YtkhammleijbpeaaGreat.Sx
end
