/- The laws' first test of the isa, run on terms. No condition. -/
import Derived.Test.YtkogjjeoihnjpaaGreatPack13
section
set_option linter.unusedVariables false
set_option linter.unusedSimpArgs false
namespace Go.Proofs.YtkogjjeoihnjpaaGreat.Sx
open Go Go.RowKit
set_option maxRecDepth 100000
set_option maxHeartbeats 4000000 in
theorem awake_run : (xfn Tryz.prog tab.get mayO 5000 100 15 [] hp1).every (fun a => a.1.isB true) = true := by kernel_rfl
noncomputable def awOrc : Orc := memo0 15 true
theorem awOrc_ok (X : Ext) (ft : Ft) : OrcOk Tryz.prog X ft awOrc := memo0_ok tab_ok mixed mayO_ok awake_run X ft
theorem isa_awake (w : World) : Calls Tryz.prog 15 #[] w (Gives (.bool true) w) := by
  refine (awOrc_ok noExt (envOf []).f 15 [] hp1 _ rfl (ctx1 (envOf [])) w [] ⟨rfl, rfl, fun _ _ h => nomatch h⟩ (hrel1 _ w) .nil (fun _ a => a.1.isB true = true) rfl).mono ?_
  rintro e w' ⟨C', v, sv, hp', rfl, hrel, hH, hK, hb⟩
  have := SV.isB_ok hb
  simp only at this
  subst this
  exact ⟨by rw [hrel.2]; rfl, hK.belowN⟩
end Go.Proofs.YtkogjjeoihnjpaaGreat.Sx
end
