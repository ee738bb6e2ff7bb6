/- effect.May at a core at its beginning, run on terms. No condition. -/
import Derived.Test.YtkhammleijbpeaaGreatPack3
import Derived.Test.YtkhammleijbpeaaGreatPack4
section
set_option linter.unusedVariables false
set_option linter.unusedSimpArgs false
namespace Go.Proofs.YtkhammleijbpeaaGreat.Sx
open Go Go.RowKit
set_option maxRecDepth 100000
/-- a core at its beginning, wherever it is, whatever its registers and its counters are -/
def vu (i : Nat) : SC := .int .u64 (.var 0 18446744073709551615 i)
def lu (n : Int) : SC := .int .u64 (.lit n)
def vus : Nat → Nat → List SC
  | _, 0 => []
  | i, n + 1 => vu i :: vus (i + 1) n
def genHart : List SC := vu 0 :: .int .i64 (.lit 3) :: lu 0 :: vus 3 31 ++ (List.replicate 11 (lu 0) ++ (List.replicate 8 (lu 0) ++ vus 53 3 ++ (List.replicate 4 (lu 0) ++ (vus 60 4 ++ [.bool (.tt false), lu 0]))))
/-- its place is a multiple of 4 -/
def placeFact : List (E × Bool) := [(.cmp .neq (.pl .rem (.var 0 18446744073709551615 0) (.lit 4)) (.lit 0), false), (.cmp .eql (.pl .rem (.var 0 18446744073709551615 0) (.lit 4)) (.lit 0), true)]
set_option maxHeartbeats 4000000 in
theorem may_run : (xfn Tryz.prog tab.get noOrc 5000 100 40 [.pv (.agg genHart)] hp1).everyU placeFact (fun a => a.1.isB true) = true := by kernel_rfl
def mayOrc : Orc := memoOrc 40 genHart placeFact true
theorem mayOrc_ok (X : Ext) (ft : Ft) : OrcOk Tryz.prog X ft mayOrc := memo_ok tab_ok mixed may_run X ft
end Go.Proofs.YtkhammleijbpeaaGreat.Sx
end
