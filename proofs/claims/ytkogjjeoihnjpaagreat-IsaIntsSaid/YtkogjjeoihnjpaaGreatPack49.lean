/- A machine's step in which no interrupt is taken, as the run says: what may be the cause of a trap. No condition. A machine's step in which no interrupt is taken: the run's ends are as they must be. No condition. -/
import Derived.Test.YtkogjjeoihnjpaaGreatPack33
import Derived.KernelRfl
section
set_option linter.unusedVariables false
set_option linter.unusedSimpArgs false
namespace Go.Proofs.YtkogjjeoihnjpaaGreat.Sx
open Go Go.RowKit
set_option maxRecDepth 100000
noncomputable section
/-- behind hart, world, pages: the cause of the interrupt that would be taken, and whether one would -/
def loiRs : List (Int × Int) := stpRs ++ [nR] ++ [U, BB]
def loiIs : E := .cmp .eql (.var (.ofNat 0) (.ofNat 1) 78) (.lit (.ofNat 1))
def loiD : Df := ⟨11, vars 0 stpRs, [.var (.ofNat 0) (.ofNat 18446744073709551615) 77, .var (.ofNat 0) (.ofNat 1) 78]⟩
def hpL (mrow : List SC) (fk : Ks) (k : Nat) (d : List Df) : Hp := { hpM mrow fk k with gh := ⟨fk, d, [.var (.ofNat 4) (.ofNat 256) k]⟩ }
def loiK : Ks := mayK ++ [(loiIs, false)]
def loiT : XR := xfn Tryz.prog tab.get stpOrcs 5000 100 16 (argsD [.agg envC] 66 loiRs) (hpL hrow loiK 76 [loiD])
def recL : List (Int × Int) := [U, U, U32, BB, R 9223372036854775807, U, R 31, U, R 3, U, R 8, U]
def loiB (a : SV × Hp) : Bool :=
  match rsEs (.one (.agg recC)) a.1 with
  | some es => inRs a.2.gh.k recL es
  | none => false
end
end Go.Proofs.YtkogjjeoihnjpaaGreat.Sx
end
section
namespace Go.Proofs.YtkogjjeoihnjpaaGreat.Sx
open Go Go.RowKit
set_option maxRecDepth 100000
theorem loi_one : loiT.one = true := by kernel_rfl
theorem loi_res : loiT.every loiB = true := by kernel_rfl
end Go.Proofs.YtkogjjeoihnjpaaGreat.Sx
end
