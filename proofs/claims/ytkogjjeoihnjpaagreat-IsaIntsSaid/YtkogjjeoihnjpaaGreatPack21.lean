/- csr.Modify: registers that may be, again. No condition. effect.Do: what is asked of it, what is known of its answer. No condition. -/
import Derived.Test.YtkogjjeoihnjpaaGreatPack4
import Derived.Test.YtkogjjeoihnjpaaGreatPack8
import Derived.Test.YtkogjjeoihnjpaaGreatPack5
import Derived.Test.YtkogjjeoihnjpaaGreatPack20
import Derived.KernelRfl
import Derived.Test.YtkogjjeoihnjpaaGreatPack17
import Derived.Test.YtkogjjeoihnjpaaGreatPack18
section
set_option linter.unusedVariables false
namespace Go.Proofs.YtkogjjeoihnjpaaGreat.Sx
open Go Go.RowKit
set_option maxRecDepth 100000
noncomputable def modOrc : Orc := orcL [mrdO, valO, wriO]
noncomputable def ft2 : Ft := fun i => if i = 17 then mrdF else if i = 18 then valF else if i = 19 then wriF else fun _ => []
theorem modOrc_ok : OrcOk Tryz.prog noExt ft2 modOrc := orcL_ok fun o ho => by
  simp only [List.mem_cons, List.not_mem_nil, or_false] at ho
  rcases ho with rfl | rfl | rfl
  · exact mrdO_ok _ _ rfl
  · exact valO_ok _ _ rfl
  · exact wriO_ok _ _ rfl
/-! ### csr.Modify -/
def mdfRs : List (Int × Int) := csrR ++ [R 4095, R 3, R 31, U, BB] ++ envR
/-- behind the value, the registers (1 to 30), the error (31) -/
def mdfK : Ks := csrK1 ++ [(.ite (.cmp .neq (.var (.ofNat 0) (.ofNat 20) 31) (ln 0)) (.tt true) (.ite (.cmp .eql (.var (.ofNat 0) (.ofNat 4095) 62) (ln 2818)) (.tt true) (.cmp .eql (vu 20) (vu 51))), true)]
theorem mdf_ran : ranB (xfn Tryz.prog tab.get modOrc 5000 100 182 (argsG [.agg csrC, .one ci, .one ci, .one ci, .one cu, .one cb, .agg envC] mdfRs) (hpF csrK)) (.tup [.one cu, .agg csrC, .one ci]) ([U] ++ csrR ++ [R 20]) mdfRs mdfK = true := by kernel_rfl
noncomputable def mdfF : List Int → List Int := Fof (xfn Tryz.prog tab.get modOrc 5000 100 182 (argsG [.agg csrC, .one ci, .one ci, .one ci, .one cu, .one cb, .agg envC] mdfRs) (hpF csrK)) (.tup [.one cu, .agg csrC, .one ci]) ft2
theorem mdf_tells : Tells Tryz.prog 182 [.agg csrC, .one ci, .one ci, .one ci, .one cu, .one cb, .agg envC] mdfRs csrK (.tup [.one cu, .agg csrC, .one ci]) ([U] ++ csrR ++ [R 20]) mdfK mdfF := tells_of_run tab_ok mixed modOrc_ok (by decide) (by kernel_rfl) (by kernel_rfl) mdf_ran
noncomputable def mdfO : Orc := tellOrc 182 20 [.agg csrC, .one ci, .one ci, .one ci, .one cu, .one cb, .agg envC] mdfRs csrK (.tup [.one cu, .agg csrC, .one ci]) ([U] ++ csrR ++ [R 20]) mdfK
theorem mdfO_ok (X : Ext) (ft : Ft) (h : ft 20 = mdfF) : OrcOk Tryz.prog X ft mdfO := tellOrc_ok (by kernel_rfl) (by kernel_rfl) (by rw [h]; exact mdf_tells)
end Go.Proofs.YtkogjjeoihnjpaaGreat.Sx
end
section
set_option linter.unusedVariables false
namespace Go.Proofs.YtkogjjeoihnjpaaGreat.Sx
open Go Go.RowKit
set_option maxRecDepth 100000
def recR : List (Int × Int) := [U, U, U32, BB, U, U, R 31, U, R 3, U, R 8, U]
/-- the cause of a trap of effect.Do -/
def recD : List (Int × Int) := [U, U, U32, BB, R 63, U, R 31, U, R 3, U, R 8, U]
/-- Inhibit at i and j, Instret behind each, t whether it trapped: counted as it must be, if the bit that inhibits has not turned -/
def bit2 (i : Nat) : E := .pl .rem (.pl .quo (vu i) (ln 4)) (ln 2)
def cntY (i j : Nat) (t : E) : E := .ite (.cmp .eql (bit2 i) (bit2 j)) (.ite (.cmp .eql t (ln 1)) (.cmp .eql (vu (j + 1)) (vu (i + 1))) (.ite (.cmp .eql (bit2 i) (ln 1)) (.cmp .eql (vu (j + 1)) (vu (i + 1))) (.cmp .eql (vu (j + 1)) (.bin .add .u64 (vu (i + 1)) (ln 1))))) (.tt true)
/-- an access to minstret, by the instruction -/
def cntC (op cs : Nat) : E := .ite (.cmp .eql (.var (.ofNat 0) (.ofNat 22) op) (ln 19)) (.cmp .eql (.var (.ofNat 0) (.ofNat 4095) cs) (ln 2818)) (.tt false)
def doRs : List (Int × Int) := hartR ++ workR ++ envR
/-- behind the hart: the record (Cycle 66, PC, Inst, Trap 69, Cause, Tval, Rd 72, Val 73, Mem 74, Addr, Size, Data), then what was asked (from 78 on; the cycle 168) -/
def recK : Ks := [
  (.cmp .eql (vu 66) (vu 168), true),
  (.ite (.cmp .neq (.var (.ofNat 0) (.ofNat 31) 72) (ln 0)) (.tt true) (.cmp .eql (vu 73) (ln 0)), true),
  (.ite (.cmp .neq (.var (.ofNat 0) (.ofNat 1) 69) (ln 1)) (.tt true) (.cmp .eql (.var (.ofNat 0) (.ofNat 31) 72) (ln 0)), true),
  (.ite (.cmp .neq (.var (.ofNat 0) (.ofNat 1) 69) (ln 1)) (.tt true) (.cmp .eql (.var (.ofNat 0) (.ofNat 3) 74) (ln 0)), true),
  (.ite (.cmp .neq (.var (.ofNat 0) (.ofNat 31) 72) (ln 1)) (.tt true) (.cmp .eql (vu 3) (vu 73)), true),
  (.ite (.cmp .neq (.var (.ofNat 0) (.ofNat 31) 72) (ln 2)) (.tt true) (.cmp .eql (vu 4) (vu 73)), true),
  (.ite (.cmp .neq (.var (.ofNat 0) (.ofNat 31) 72) (ln 3)) (.tt true) (.cmp .eql (vu 5) (vu 73)), true),
  (.ite (.cmp .neq (.var (.ofNat 0) (.ofNat 31) 72) (ln 4)) (.tt true) (.cmp .eql (vu 6) (vu 73)), true),
  (.ite (.cmp .neq (.var (.ofNat 0) (.ofNat 31) 72) (ln 5)) (.tt true) (.cmp .eql (vu 7) (vu 73)), true),
  (.ite (.cmp .neq (.var (.ofNat 0) (.ofNat 31) 72) (ln 6)) (.tt true) (.cmp .eql (vu 8) (vu 73)), true),
  (.ite (.cmp .neq (.var (.ofNat 0) (.ofNat 31) 72) (ln 7)) (.tt true) (.cmp .eql (vu 9) (vu 73)), true),
  (.ite (.cmp .neq (.var (.ofNat 0) (.ofNat 31) 72) (ln 8)) (.tt true) (.cmp .eql (vu 10) (vu 73)), true),
  (.ite (.cmp .neq (.var (.ofNat 0) (.ofNat 31) 72) (ln 9)) (.tt true) (.cmp .eql (vu 11) (vu 73)), true),
  (.ite (.cmp .neq (.var (.ofNat 0) (.ofNat 31) 72) (ln 10)) (.tt true) (.cmp .eql (vu 12) (vu 73)), true),
  (.ite (.cmp .neq (.var (.ofNat 0) (.ofNat 31) 72) (ln 11)) (.tt true) (.cmp .eql (vu 13) (vu 73)), true),
  (.ite (.cmp .neq (.var (.ofNat 0) (.ofNat 31) 72) (ln 12)) (.tt true) (.cmp .eql (vu 14) (vu 73)), true),
  (.ite (.cmp .neq (.var (.ofNat 0) (.ofNat 31) 72) (ln 13)) (.tt true) (.cmp .eql (vu 15) (vu 73)), true),
  (.ite (.cmp .neq (.var (.ofNat 0) (.ofNat 31) 72) (ln 14)) (.tt true) (.cmp .eql (vu 16) (vu 73)), true),
  (.ite (.cmp .neq (.var (.ofNat 0) (.ofNat 31) 72) (ln 15)) (.tt true) (.cmp .eql (vu 17) (vu 73)), true),
  (.ite (.cmp .neq (.var (.ofNat 0) (.ofNat 31) 72) (ln 16)) (.tt true) (.cmp .eql (vu 18) (vu 73)), true),
  (.ite (.cmp .neq (.var (.ofNat 0) (.ofNat 31) 72) (ln 17)) (.tt true) (.cmp .eql (vu 19) (vu 73)), true),
  (.ite (.cmp .neq (.var (.ofNat 0) (.ofNat 31) 72) (ln 18)) (.tt true) (.cmp .eql (vu 20) (vu 73)), true),
  (.ite (.cmp .neq (.var (.ofNat 0) (.ofNat 31) 72) (ln 19)) (.tt true) (.cmp .eql (vu 21) (vu 73)), true),
  (.ite (.cmp .neq (.var (.ofNat 0) (.ofNat 31) 72) (ln 20)) (.tt true) (.cmp .eql (vu 22) (vu 73)), true),
  (.ite (.cmp .neq (.var (.ofNat 0) (.ofNat 31) 72) (ln 21)) (.tt true) (.cmp .eql (vu 23) (vu 73)), true),
  (.ite (.cmp .neq (.var (.ofNat 0) (.ofNat 31) 72) (ln 22)) (.tt true) (.cmp .eql (vu 24) (vu 73)), true),
  (.ite (.cmp .neq (.var (.ofNat 0) (.ofNat 31) 72) (ln 23)) (.tt true) (.cmp .eql (vu 25) (vu 73)), true),
  (.ite (.cmp .neq (.var (.ofNat 0) (.ofNat 31) 72) (ln 24)) (.tt true) (.cmp .eql (vu 26) (vu 73)), true),
  (.ite (.cmp .neq (.var (.ofNat 0) (.ofNat 31) 72) (ln 25)) (.tt true) (.cmp .eql (vu 27) (vu 73)), true),
  (.ite (.cmp .neq (.var (.ofNat 0) (.ofNat 31) 72) (ln 26)) (.tt true) (.cmp .eql (vu 28) (vu 73)), true),
  (.ite (.cmp .neq (.var (.ofNat 0) (.ofNat 31) 72) (ln 27)) (.tt true) (.cmp .eql (vu 29) (vu 73)), true),
  (.ite (.cmp .neq (.var (.ofNat 0) (.ofNat 31) 72) (ln 28)) (.tt true) (.cmp .eql (vu 30) (vu 73)), true),
  (.ite (.cmp .neq (.var (.ofNat 0) (.ofNat 31) 72) (ln 29)) (.tt true) (.cmp .eql (vu 31) (vu 73)), true),
  (.ite (.cmp .neq (.var (.ofNat 0) (.ofNat 31) 72) (ln 30)) (.tt true) (.cmp .eql (vu 32) (vu 73)), true),
  (.ite (.cmp .neq (.var (.ofNat 0) (.ofNat 31) 72) (ln 31)) (.tt true) (.cmp .eql (vu 33) (vu 73)), true)]
def doK : Ks := mayK ++ (recK ++ [(.cmp .eql (.var (.ofNat 0) (.ofNat 4294967295) 68) (.var (.ofNat 0) (.ofNat 4294967295) 155), true), (.ite (cntC 144 154) (.tt true) (cntY 130 52 (.var (.ofNat 0) (.ofNat 1) 69)), true)])
noncomputable def doOrc : Orc := orcL [entO, mdfO, extO, brnO]
noncomputable def ft3 : Ft := fun i => if i = 15 then entF else if i = 20 then mdfF else if i = 12 then extF else if i = 14 then brnF else fun _ => []
theorem doOrc_ok : OrcOk Tryz.prog noExt ft3 doOrc := orcL_ok fun o ho => by
  simp only [List.mem_cons, List.not_mem_nil, or_false] at ho
  rcases ho with rfl | rfl | rfl | rfl
  · exact entO_ok _ _ rfl
  · exact mdfO_ok _ _ rfl
  · exact extO_ok _ _ rfl
  · exact brnO_ok _ _ rfl
noncomputable def doT (fk : Ks) : XR := xfn Tryz.prog tab.get doOrc 5000 100 45 (argsG [.agg hartC, .agg workC, .agg envC] doRs) (hpF fk)
abbrev doS (fk : Ks) (F : List Int → List Int) : Prop := Tells Tryz.prog 45 [.agg hartC, .agg workC, .agg envC] doRs fk (.tup [.agg hartC, .agg recC]) (hartR ++ recD) doK F
noncomputable abbrev doB (fk : Ks) : Bool := ranB (doT fk) (.tup [.agg hartC, .agg recC]) (hartR ++ recD) doRs doK
theorem do_tells1 (fk : Ks) (hf : fk.all (fun q => scB doRs q.1) = true) (h : doB fk = true) : ∃ F, doS fk F :=
  ⟨Fof (doT fk) (.tup [.agg hartC, .agg recC]) ft3, tells_of_run tab_ok mixed doOrc_ok (by decide) hf (by kernel_rfl) h⟩
/-- which operation; which privilege -/
def opK (j : Nat) : E × Bool := (.cmp .eql (.var (.ofNat 0) (.ofNat 22) 66) (.lit (.ofNat j)), true)
def prK (j : Nat) : E × Bool := (.cmp .eql (.var (.ofNat 0) (.ofNat 3) 1) (.lit (.ofNat j)), true)
end Go.Proofs.YtkogjjeoihnjpaaGreat.Sx
end
