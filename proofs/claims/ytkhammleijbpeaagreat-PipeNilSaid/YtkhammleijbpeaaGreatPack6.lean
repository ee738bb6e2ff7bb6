/- What decoding answers to the two words of the pipe's first test, run on terms. No condition. -/
import Derived.Test.YtkhammleijbpeaaGreatPack5
section
set_option linter.unusedVariables false
set_option linter.unusedSimpArgs false
namespace Go.Proofs.YtkhammleijbpeaaGreat.Sx
open Go Go.RowKit
set_option maxRecDepth 100000
def mi (n : Int) : SC := .int .i64 (.lit n)
def mb (b : Bool) : SC := .bool (.tt b)
/-- addi x5, x0, 7 -/
def inst1 : SV := .pv (.agg [mi 8, mi 0, mi 5, mi 0, mi 0, .int .u64 (.lit 7), mi 0, mb false, mb false, mb false, mi 0])
/-- none -/
def inst0 : SV := .pv (.agg [mi 0, mi 0, mi 0, mi 0, mi 0, .int .u64 (.lit 0), mi 0, mb false, mb false, mb false, mi 0])
def word1 : SV := .sc (.int .u32 (.lit 7340691))
def word0 : SV := .sc (.int .u32 (.lit 0))
set_option maxHeartbeats 4000000 in
theorem ref1_run : (xfn Tryz.prog tab.get noOrc 5000 100 47 [word1] hp1).every (fun a => svSame a.1 inst1) = true := by kernel_rfl
set_option maxHeartbeats 4000000 in
theorem ref0_run : (xfn Tryz.prog tab.get noOrc 5000 100 47 [word0] hp1).every (fun a => svSame a.1 inst0) = true := by kernel_rfl
set_option maxHeartbeats 4000000 in
theorem dec1_run : (xfn Tryz.prog tab.get noOrc 5000 100 37 [word1] hp1).every (fun a => svSame a.1 inst1) = true := by kernel_rfl
set_option maxHeartbeats 4000000 in
theorem dec0_run : (xfn Tryz.prog tab.get noOrc 5000 100 37 [word0] hp1).every (fun a => svSame a.1 inst0) = true := by kernel_rfl
def memoOrcs : Orc := orcOr (orcOr (memoV 47 [word1] inst1) (memoV 47 [word0] inst0)) (orcOr (orcOr (memoV 37 [word1] inst1) (memoV 37 [word0] inst0)) mayOrc)
theorem memoOrcs_ok (X : Ext) (ft : Ft) : OrcOk Tryz.prog X ft memoOrcs :=
  orcOr_ok (orcOr_ok (memoV_ok tab_ok mixed (noOrc_ok _) (by decide) ref1_run X ft) (memoV_ok tab_ok mixed (noOrc_ok _) (by decide) ref0_run X ft))
    (orcOr_ok (orcOr_ok (memoV_ok tab_ok mixed (noOrc_ok _) (by decide) dec1_run X ft) (memoV_ok tab_ok mixed (noOrc_ok _) (by decide) dec0_run X ft)) (mayOrc_ok X ft))
end Go.Proofs.YtkhammleijbpeaaGreat.Sx
end
