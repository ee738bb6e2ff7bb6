/- Where an access goes: the document's machine answers as the program's. No condition. Some ways of a run hold. No condition. Some ways of a run hold. No condition. -/
import Derived.Test.YtkogjjeoihnjpaaGreatPack17
import Derived.Test.YtkogjjeoihnjpaaGreatPack18
import Derived.Test.YtkogjjeoihnjpaaGreatPack19
import Derived.KernelRfl
section
set_option linter.unusedVariables false
set_option linter.unusedSimpArgs false
namespace Go.Proofs.YtkogjjeoihnjpaaGreat.Sx
open Go Go.RowKit
set_option maxRecDepth 100000
noncomputable section
def whrOrcs : Orc := orcL [entryOrc 115 999, storeOrc 73 999, priRO, onnRO, chkRO, mrkRO, fltRO, pmmRO, fieldOrc, sextOrc, putfOrc]
theorem pxR999 (sb n : Nat) : pxR sb n 999 = some (bytesV sb n) := rfl
theorem whrOrcs_ok (sb n : Nat) (ct : Nat → Nat) : OrcOk Tryz.prog (refX sb n ct (pxR sb n)) (ftT ct) whrOrcs := orcL_ok fun o ho => by
  simp only [List.mem_cons, List.not_mem_nil, or_false] at ho
  rcases ho with rfl | rfl | rfl | rfl | rfl | rfl | rfl | rfl | rfl | rfl | rfl
  · exact entryOrc_ok (pxR999 sb n) rfl
  · exact storeOrc_ok (pxR999 sb n) rfl
  · exact priRO_ok _ _ rfl
  · exact onnRO_ok _ _ rfl
  · exact chkRO_ok _ _ rfl
  · exact mrkRO_ok _ _ rfl
  · exact fltRO_ok _ _ rfl
  · exact pmmRO_ok _ _ rfl
  · exact fieldOrc_ok _ _
  · exact sextOrc_ok _ _
  · exact putfOrc_ok _ _
def whrIx : List Nat := List.range' 7 66 ++ [0, 1, 2, 4]
def whrP (a : SV × Hp) : Bool := bif Nat.ble 1000 a.2.nx then (rrun whrOrcs 52 [.agg hartC, .one cu, .one ci, .one ci, .one cb] whrIx wnR a.2).every (rsameB (.tup [.one cu, .one cu]) 1 wnR.length a) else false
end
end Go.Proofs.YtkogjjeoihnjpaaGreat.Sx
end
section
set_option linter.unusedVariables false
namespace Go.Proofs.YtkogjjeoihnjpaaGreat.Sx
open Go Go.RowKit
set_option maxRecDepth 100000
theorem whr_same_tfftttfffftttff : (T.go [true, false, false, true, true, true, false, false, false, false, true, true, true, false, false] trnT).every whrP = true := by kernel_rfl
end Go.Proofs.YtkogjjeoihnjpaaGreat.Sx
end
section
set_option linter.unusedVariables false
namespace Go.Proofs.YtkogjjeoihnjpaaGreat.Sx
open Go Go.RowKit
set_option maxRecDepth 100000
theorem whr_same_tfftffffftttfff : (T.go [true, false, false, true, false, false, false, false, false, true, true, true, false, false, false] trnT).every whrP = true := by kernel_rfl
end Go.Proofs.YtkogjjeoihnjpaaGreat.Sx
end
