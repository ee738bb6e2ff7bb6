/- effect.Do told by a function on numbers: a hart that may be, again; what the record is. No condition. A machine's step: its run on terms. No condition. -/
import Derived.Test.YtkogjjeoihnjpaaGreatPack22
import Derived.Test.YtkogjjeoihnjpaaGreatPack23
import Derived.Test.YtkogjjeoihnjpaaGreatPack24
import Derived.Test.YtkogjjeoihnjpaaGreatPack25
import Derived.Test.YtkogjjeoihnjpaaGreatPack26
import Derived.Test.YtkogjjeoihnjpaaGreatPack27
import Derived.Test.YtkogjjeoihnjpaaGreatPack28
import Derived.Test.YtkogjjeoihnjpaaGreatPack29
import Derived.Test.YtkogjjeoihnjpaaGreatPack30
import Derived.Test.YtkogjjeoihnjpaaGreatPack31
import Derived.Test.YtkogjjeoihnjpaaGreatPack32
import Derived.KernelRfl
import Derived.Test.YtkogjjeoihnjpaaGreatPack16
import Derived.Test.YtkogjjeoihnjpaaGreatPack17
section
set_option linter.unusedVariables false
namespace Go.Proofs.YtkogjjeoihnjpaaGreat.Sx
open Go Go.RowKit
set_option maxRecDepth 100000
theorem do_cases {fk : Ks} {i m : Nat} {u : Int} (hr : doRs[i]? = some (.ofNat 0, u)) (hu : u ≤ m) (h : ∀ j, j ≤ m → ∃ F, doS (fk ++ [(.cmp .eql (.var (.ofNat 0) u i) (.lit (.ofNat j)), true)]) F) : ∃ F, doS fk F := by
  have h' : ∀ j, ∃ F, j ≤ m → doS (fk ++ [(.cmp .eql (.var (.ofNat 0) u i) (.lit (.ofNat j)), true)]) F := fun j =>
    if hj : j ≤ m then (h j hj).imp fun F hF _ => hF else ⟨fun _ => [], fun k => absurd k hj⟩
  have : ∃ F : Nat → List Int → List Int, ∀ j, j ≤ m → doS (fk ++ [(.cmp .eql (.var (.ofNat 0) u i) (.lit (.ofNat j)), true)]) (F j) :=
    ⟨fun j => Classical.choose (h' j), fun j hj => Classical.choose_spec (h' j) hj⟩
  obtain ⟨F, hF⟩ := this
  exact ⟨_, Tells.cases hr hu hF⟩
theorem do13 : ∃ F, doS (mayK ++ [opK 13]) F := do_cases (i := 1) (m := 3) (u := .ofNat 3) rfl (by decide) fun j hj => by
  match j, hj with
  | 0, _ => exact do13_0
  | 1, _ => exact do13_1
  | 2, _ => exact do13_2
  | 3, _ => exact do13_3
  | j + 4, hj => omega
theorem do_ex : ∃ F, doS mayK F := do_cases (i := 66) (m := 22) (u := .ofNat 22) rfl (by decide) fun j hj => by
  match j, hj with
  | 0, _ => exact do0
  | 1, _ => exact do1
  | 2, _ => exact do2
  | 3, _ => exact do3
  | 4, _ => exact do4
  | 5, _ => exact do5
  | 6, _ => exact do6
  | 7, _ => exact do7
  | 8, _ => exact do8
  | 9, _ => exact do9
  | 10, _ => exact do10
  | 11, _ => exact do11
  | 12, _ => exact do12
  | 13, _ => exact do13
  | 14, _ => exact do14
  | 15, _ => exact do15
  | 16, _ => exact do16
  | 17, _ => exact do17
  | 18, _ => exact do18
  | 19, _ => exact do19
  | 20, _ => exact do20
  | 21, _ => exact do21
  | 22, _ => exact do22
  | j + 23, hj => omega
noncomputable def doF : List Int → List Int := Classical.choose do_ex
theorem do_tells : doS mayK doF := Classical.choose_spec do_ex
noncomputable def doO : Orc := tellOrc 45 21 [.agg hartC, .agg workC, .agg envC] doRs mayK (.tup [.agg hartC, .agg recC]) (hartR ++ recR) doK
theorem doO_ok (X : Ext) (ft : Ft) (h : ft 21 = doF) : OrcOk Tryz.prog X ft doO := tellOrc_ok (by kernel_rfl) (by kernel_rfl) (by rw [h]; exact do_tells)
end Go.Proofs.YtkogjjeoihnjpaaGreat.Sx
end
section
set_option linter.unusedVariables false
set_option linter.unusedSimpArgs false
namespace Go.Proofs.YtkogjjeoihnjpaaGreat.Sx
open Go Go.RowKit
set_option maxRecDepth 100000
noncomputable section
def stpOrcs : Orc := orcL [selO, accO, decO, rckO, doO, entO]
def ftS (ct : Nat → Nat) : Ft := fun i => if i = 11 then selF else if i = 22 then mF accF wantR.length ct else if i = 16 then decF else if i = 13 then rckF else if i = 21 then doF else if i = 15 then entF else fun _ => []
theorem stpOrcs_ok (b n : Nat) (ct : Nat → Nat) : OrcOk Tryz.prog (ramX b n ct (pxM b)) (ftS ct) stpOrcs := orcL_ok fun o ho => by
  simp only [List.mem_cons, List.not_mem_nil, or_false] at ho
  rcases ho with rfl | rfl | rfl | rfl | rfl | rfl
  · exact selO_ok _ _ (by simp [ftS])
  · exact accO_ok b n ct _ (by simp [ftS])
  · exact decO_ok _ _ (by simp [ftS])
  · exact rckO_ok _ _ (by simp [ftS])
  · exact doO_ok _ _ (by simp [ftS])
  · exact entO_ok _ _ (by simp [ftS])
def stpRs : List (Int × Int) := hartR ++ envR
def hrow : List SC := cksSC hartC (vars 0 hartR)
def stpT : XR := xfn Tryz.prog tab.get stpOrcs 5000 100 16 (argsD [.agg envC] 66 (stpRs ++ [nR])) (hpM hrow mayK 76)
/-- the hart, the record, the words put -/
def souts (a : SV × Hp) : Option (List E) :=
  match hget a.2.H 900 with
  | some (.cells row T es false) => bif Nat.beq T 94 then (match cksE hartC (row.take 66), rsEs (.one (.agg recC)) a.1, a.2.gh.m with
    | some h, some r, _ :: q => (padP 4 q).map fun l => (h ++ r) ++ l
    | _, _, _ => none) else none
  | _ => none
def putR : List (Int × Int) := [U, R 8, U]
def stpOrs : List (Int × Int) := hartR ++ recR ++ (putR ++ putR ++ putR ++ putR)
/-- what is known behind a step: a hart that may be; of the record (its cycle: number 66 of what was there, 156 behind what comes out) -/
def stpK : Ks := mayK ++ ((.cmp .eql (vu 66) (vu 156), true) :: recK.tail)
def ramCell (a : SV × Hp) : Bool :=
  match hget a.2.H 900 with
  | some (.cells row _ _ false) => (match row.drop 66 with
    | [.ext i] => Nat.beq i 999
    | _ => false)
  | _ => false
def sresB (a : SV × Hp) : Bool :=
  match souts a with
  | some es => bif inRs a.2.gh.k stpOrs es then (bif holdsB a.2.gh.k (es ++ vars 0 stpRs) stpK then ramCell a else false) else false
  | none => false
end
end Go.Proofs.YtkogjjeoihnjpaaGreat.Sx
end
