/- trap.Enter: a hart that may be, again. No condition. -/
import Derived.Test.YtkogjjeoihnjpaaGreatPack4
import Derived.Test.YtkogjjeoihnjpaaGreatPack8
import Derived.Test.YtkogjjeoihnjpaaGreatPack5
import Derived.KernelRfl
section
set_option linter.unusedVariables false
namespace Go.Proofs.YtkogjjeoihnjpaaGreat.Sx
open Go Go.RowKit
set_option maxRecDepth 100000
/-! ### trap.Enter -/
def entRs : List (Int × Int) := hartR ++ [U, U]
/-- what stays: registers (2 to 33), Inhibit, Instret -/
def sameK : Nat → Nat → Ks
  | 0, _ => []
  | n + 1, i => (.cmp .eql (vu i) (vu (66 + i)), true) :: sameK n (i + 1)
def entK : Ks := mayK ++ (sameK 32 2 ++ sameK 2 52)
theorem ent_ran : ranB (xfn Tryz.prog tab.get noOrc 5000 100 83 (argsG [.agg hartC, .one cu, .one cu] entRs) (hpF mayK)) (.one (.agg hartC)) hartR entRs entK = true := by kernel_rfl
noncomputable def entF : List Int → List Int := Fof (xfn Tryz.prog tab.get noOrc 5000 100 83 (argsG [.agg hartC, .one cu, .one cu] entRs) (hpF mayK)) (.one (.agg hartC)) (fun _ _ => [])
theorem ent_tells : Tells Tryz.prog 83 [.agg hartC, .one cu, .one cu] entRs mayK (.one (.agg hartC)) hartR entK entF := tells_of_run tab_ok mixed (noOrc_ok _ _ _) (by decide) (by kernel_rfl) (by kernel_rfl) ent_ran
noncomputable def entO : Orc := tellOrc 83 15 [.agg hartC, .one cu, .one cu] entRs mayK (.one (.agg hartC)) hartR entK
theorem entO_ok (X : Ext) (ft : Ft) (h : ft 15 = entF) : OrcOk Tryz.prog X ft entO := tellOrc_ok (by kernel_rfl) (by kernel_rfl) (by rw [h]; exact ent_tells)
end Go.Proofs.YtkogjjeoihnjpaaGreat.Sx
end
