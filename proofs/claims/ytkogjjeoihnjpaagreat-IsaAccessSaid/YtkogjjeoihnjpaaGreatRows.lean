/-
  No cell of these rows narrows 'for every input' (looked for: loops, veiled, ifaces, maps, wideKeys, modest, calm, conditions, laid).
  DERIVED. THE GIVEN ROWS OF THIS SEAT. 11 by the template 'for every input the law returns true; each argument reads behind the call as it read before'; 0 by the template 'total and deterministic' (their statements: YtkogjjeoihnjpaaGreatTotals.lean).
  GIVEN WITH THE SEED: the statements are not yours to turn. If you find one false, say at which input.
  Laid BY PROGRAM, IN A SANDBOX (cutbox-rows.mjs): the forced cells as the released guide's own fill.sh prints them over the translation 923e57fa52c95c92… (all of the seat's roots in one cut). By AI agents, Wed Nov 11 2026. No macro, syntax, notation, axiom, sorry.
-/
import Derived.Test.YtkogjjeoihnjpaaGreatChecked
import GoSem.Claim
import GoSem.ClaimJoined
import GoSem.ClaimMapViews
import Derived.JoinedTies
import Derived.KernelRfl
namespace Go.Proofs.YtkogjjeoihnjpaaGreat
/- THE CELL 'sum', in the pinned program and in every row, IS THE sha256 OF THE DUMP (.gsa) THAT YtkogjjeoihnjpaaGreatProg.lean LOADS. Nothing in Lean hashes anything: it is a label: what it is worth is what the hold of that sum in a sandbox is worth. -/
noncomputable def Tryz.pinned : Pinned := { name := "ytkogjjeoihnjpaagreat", sum := "923e57fa52c95c923a53d15e5543e6c764204dcbe3832f5db786f9d0a54468f6", checked := Tryz.checked }
namespace Rows
def none {H : Type} : Left H := { results := [], args := [] }

/-- 'tappetlaw24.IsaKeeps': WHATEVER THE INPUT: true; the input reads as it did. -/
def isaKeepsSpec : ChangeSpec := { name := "isaKeeps", fn := fun _ => fun
  | [d1, d2, d3] => { results := [.lit (.bool true)], args := [d1, d2, d3] }
  | _ => none }
def isaKeepsRow : OpenClaim := { program := "ytkogjjeoihnjpaagreat", sum := "923e57fa52c95c923a53d15e5543e6c764204dcbe3832f5db786f9d0a54468f6", func := "tappet/tappetlaw24.IsaKeeps", spec := "isaKeeps", unfollowed := true, recurses := true, apart := false }
def IsaKeepsSaid : Prop := isaKeepsRow.holds Tryz.pinned (OpenSpec.ofChange isaKeepsSpec)

/-- ITS FALSE NEIGHBOUR: 'it returns false'. Refute it at one input. -/
def isaKeepsWrong : ChangeSpec := { name := "isaKeeps", fn := fun _ => fun
  | [d1, d2, d3] => { results := [.lit (.bool false)], args := [d1, d2, d3] }
  | _ => none }
def IsaKeepsWrongFalsely : Prop := isaKeepsRow.holds Tryz.pinned (OpenSpec.ofChange isaKeepsWrong)

/-- 'tappetlaw24.IsaCounts': WHATEVER THE INPUT: true; the input reads as it did. -/
def isaCountsSpec : ChangeSpec := { name := "isaCounts", fn := fun _ => fun
  | [d1, d2, d3] => { results := [.lit (.bool true)], args := [d1, d2, d3] }
  | _ => none }
def isaCountsRow : OpenClaim := { program := "ytkogjjeoihnjpaagreat", sum := "923e57fa52c95c923a53d15e5543e6c764204dcbe3832f5db786f9d0a54468f6", func := "tappet/tappetlaw24.IsaCounts", spec := "isaCounts", unfollowed := true, recurses := true, apart := false }
def IsaCountsSaid : Prop := isaCountsRow.holds Tryz.pinned (OpenSpec.ofChange isaCountsSpec)

/-- ITS FALSE NEIGHBOUR: 'it returns false'. Refute it at one input. -/
def isaCountsWrong : ChangeSpec := { name := "isaCounts", fn := fun _ => fun
  | [d1, d2, d3] => { results := [.lit (.bool false)], args := [d1, d2, d3] }
  | _ => none }
def IsaCountsWrongFalsely : Prop := isaCountsRow.holds Tryz.pinned (OpenSpec.ofChange isaCountsWrong)

/-- 'tappetlaw24.IsaReserve': WHATEVER THE INPUT: true; the input reads as it did. -/
def isaReserveSpec : ChangeSpec := { name := "isaReserve", fn := fun _ => fun
  | [d1, d2, d3, d4, d5, d6] => { results := [.lit (.bool true)], args := [d1, d2, d3, d4, d5, d6] }
  | _ => none }
def isaReserveRow : OpenClaim := { program := "ytkogjjeoihnjpaagreat", sum := "923e57fa52c95c923a53d15e5543e6c764204dcbe3832f5db786f9d0a54468f6", func := "tappet/tappetlaw24.IsaReserve", spec := "isaReserve", unfollowed := true, recurses := true, apart := false }
def IsaReserveSaid : Prop := isaReserveRow.holds Tryz.pinned (OpenSpec.ofChange isaReserveSpec)

/-- ITS FALSE NEIGHBOUR: 'it returns false'. Refute it at one input. -/
def isaReserveWrong : ChangeSpec := { name := "isaReserve", fn := fun _ => fun
  | [d1, d2, d3, d4, d5, d6] => { results := [.lit (.bool false)], args := [d1, d2, d3, d4, d5, d6] }
  | _ => none }
def IsaReserveWrongFalsely : Prop := isaReserveRow.holds Tryz.pinned (OpenSpec.ofChange isaReserveWrong)

/-- 'tappetlaw24.IsaInts': WHATEVER THE INPUT: true; the input reads as it did. -/
def isaIntsSpec : ChangeSpec := { name := "isaInts", fn := fun _ => fun
  | [d1, d2, d3] => { results := [.lit (.bool true)], args := [d1, d2, d3] }
  | _ => none }
def isaIntsRow : OpenClaim := { program := "ytkogjjeoihnjpaagreat", sum := "923e57fa52c95c923a53d15e5543e6c764204dcbe3832f5db786f9d0a54468f6", func := "tappet/tappetlaw24.IsaInts", spec := "isaInts", unfollowed := true, recurses := true, apart := false }
def IsaIntsSaid : Prop := isaIntsRow.holds Tryz.pinned (OpenSpec.ofChange isaIntsSpec)

/-- ITS FALSE NEIGHBOUR: 'it returns false'. Refute it at one input. -/
def isaIntsWrong : ChangeSpec := { name := "isaInts", fn := fun _ => fun
  | [d1, d2, d3] => { results := [.lit (.bool false)], args := [d1, d2, d3] }
  | _ => none }
def IsaIntsWrongFalsely : Prop := isaIntsRow.holds Tryz.pinned (OpenSpec.ofChange isaIntsWrong)

/-- 'tappetlaw24.IsaRuns': WHATEVER THE INPUT: true; the input reads as it did. -/
def isaRunsSpec : ChangeSpec := { name := "isaRuns", fn := fun _ => fun
  | [d1, d2, d3] => { results := [.lit (.bool true)], args := [d1, d2, d3] }
  | _ => none }
def isaRunsRow : OpenClaim := { program := "ytkogjjeoihnjpaagreat", sum := "923e57fa52c95c923a53d15e5543e6c764204dcbe3832f5db786f9d0a54468f6", func := "tappet/tappetlaw24.IsaRuns", spec := "isaRuns", unfollowed := true, recurses := true, apart := false }
def IsaRunsSaid : Prop := isaRunsRow.holds Tryz.pinned (OpenSpec.ofChange isaRunsSpec)

/-- ITS FALSE NEIGHBOUR: 'it returns false'. Refute it at one input. -/
def isaRunsWrong : ChangeSpec := { name := "isaRuns", fn := fun _ => fun
  | [d1, d2, d3] => { results := [.lit (.bool false)], args := [d1, d2, d3] }
  | _ => none }
def IsaRunsWrongFalsely : Prop := isaRunsRow.holds Tryz.pinned (OpenSpec.ofChange isaRunsWrong)

/-- 'tappetlaw24.IsaAccess': WHATEVER THE INPUT: true; the input reads as it did. -/
def isaAccessSpec : ChangeSpec := { name := "isaAccess", fn := fun _ => fun
  | [d1, d2, d3] => { results := [.lit (.bool true)], args := [d1, d2, d3] }
  | _ => none }
def isaAccessRow : OpenClaim := { program := "ytkogjjeoihnjpaagreat", sum := "923e57fa52c95c923a53d15e5543e6c764204dcbe3832f5db786f9d0a54468f6", func := "tappet/tappetlaw24.IsaAccess", spec := "isaAccess", unfollowed := true, recurses := true, apart := false }
def IsaAccessSaid : Prop := isaAccessRow.holds Tryz.pinned (OpenSpec.ofChange isaAccessSpec)

/-- ITS FALSE NEIGHBOUR: 'it returns false'. Refute it at one input. -/
def isaAccessWrong : ChangeSpec := { name := "isaAccess", fn := fun _ => fun
  | [d1, d2, d3] => { results := [.lit (.bool false)], args := [d1, d2, d3] }
  | _ => none }
def IsaAccessWrongFalsely : Prop := isaAccessRow.holds Tryz.pinned (OpenSpec.ofChange isaAccessWrong)

/-- 'tappetlaw24.IsaLoads': WHATEVER THE INPUT: true; the input reads as it did. -/
def isaLoadsSpec : ChangeSpec := { name := "isaLoads", fn := fun _ => fun
  | [d1, d2, d3, d4, d5, d6] => { results := [.lit (.bool true)], args := [d1, d2, d3, d4, d5, d6] }
  | _ => none }
def isaLoadsRow : OpenClaim := { program := "ytkogjjeoihnjpaagreat", sum := "923e57fa52c95c923a53d15e5543e6c764204dcbe3832f5db786f9d0a54468f6", func := "tappet/tappetlaw24.IsaLoads", spec := "isaLoads", unfollowed := true, recurses := true, apart := false }
def IsaLoadsSaid : Prop := isaLoadsRow.holds Tryz.pinned (OpenSpec.ofChange isaLoadsSpec)

/-- ITS FALSE NEIGHBOUR: 'it returns false'. Refute it at one input. -/
def isaLoadsWrong : ChangeSpec := { name := "isaLoads", fn := fun _ => fun
  | [d1, d2, d3, d4, d5, d6] => { results := [.lit (.bool false)], args := [d1, d2, d3, d4, d5, d6] }
  | _ => none }
def IsaLoadsWrongFalsely : Prop := isaLoadsRow.holds Tryz.pinned (OpenSpec.ofChange isaLoadsWrong)

/-- 'tappetlaw24.IsaSteps': WHATEVER THE INPUT: true; the input reads as it did. -/
def isaStepsSpec : ChangeSpec := { name := "isaSteps", fn := fun _ => fun
  | [d1, d2, d3, d4, d5] => { results := [.lit (.bool true)], args := [d1, d2, d3, d4, d5] }
  | _ => none }
def isaStepsRow : OpenClaim := { program := "ytkogjjeoihnjpaagreat", sum := "923e57fa52c95c923a53d15e5543e6c764204dcbe3832f5db786f9d0a54468f6", func := "tappet/tappetlaw24.IsaSteps", spec := "isaSteps", unfollowed := true, recurses := true, apart := false }
def IsaStepsSaid : Prop := isaStepsRow.holds Tryz.pinned (OpenSpec.ofChange isaStepsSpec)

/-- ITS FALSE NEIGHBOUR: 'it returns false'. Refute it at one input. -/
def isaStepsWrong : ChangeSpec := { name := "isaSteps", fn := fun _ => fun
  | [d1, d2, d3, d4, d5] => { results := [.lit (.bool false)], args := [d1, d2, d3, d4, d5] }
  | _ => none }
def IsaStepsWrongFalsely : Prop := isaStepsRow.holds Tryz.pinned (OpenSpec.ofChange isaStepsWrong)

/-- 'tappetlaw24.IsaTwins': WHATEVER THE INPUT: true; the input reads as it did. -/
def isaTwinsSpec : ChangeSpec := { name := "isaTwins", fn := fun _ => fun
  | [d1, d2, d3, d4] => { results := [.lit (.bool true)], args := [d1, d2, d3, d4] }
  | _ => none }
def isaTwinsRow : OpenClaim := { program := "ytkogjjeoihnjpaagreat", sum := "923e57fa52c95c923a53d15e5543e6c764204dcbe3832f5db786f9d0a54468f6", func := "tappet/tappetlaw24.IsaTwins", spec := "isaTwins", unfollowed := true, recurses := true, apart := false }
def IsaTwinsSaid : Prop := isaTwinsRow.holds Tryz.pinned (OpenSpec.ofChange isaTwinsSpec)

/-- ITS FALSE NEIGHBOUR: 'it returns false'. Refute it at one input. -/
def isaTwinsWrong : ChangeSpec := { name := "isaTwins", fn := fun _ => fun
  | [d1, d2, d3, d4] => { results := [.lit (.bool false)], args := [d1, d2, d3, d4] }
  | _ => none }
def IsaTwinsWrongFalsely : Prop := isaTwinsRow.holds Tryz.pinned (OpenSpec.ofChange isaTwinsWrong)

/-- 'tappetlaw24.IsaPages': WHATEVER THE INPUT: true; the input reads as it did. -/
def isaPagesSpec : ChangeSpec := { name := "isaPages", fn := fun _ => fun
  | [d1, d2, d3, d4, d5] => { results := [.lit (.bool true)], args := [d1, d2, d3, d4, d5] }
  | _ => none }
def isaPagesRow : OpenClaim := { program := "ytkogjjeoihnjpaagreat", sum := "923e57fa52c95c923a53d15e5543e6c764204dcbe3832f5db786f9d0a54468f6", func := "tappet/tappetlaw24.IsaPages", spec := "isaPages", unfollowed := true, recurses := true, apart := false }
def IsaPagesSaid : Prop := isaPagesRow.holds Tryz.pinned (OpenSpec.ofChange isaPagesSpec)

/-- ITS FALSE NEIGHBOUR: 'it returns false'. Refute it at one input. -/
def isaPagesWrong : ChangeSpec := { name := "isaPages", fn := fun _ => fun
  | [d1, d2, d3, d4, d5] => { results := [.lit (.bool false)], args := [d1, d2, d3, d4, d5] }
  | _ => none }
def IsaPagesWrongFalsely : Prop := isaPagesRow.holds Tryz.pinned (OpenSpec.ofChange isaPagesWrong)

/-- 'tappetlaw24.IsaTraps': WHATEVER THE INPUT: true; the input reads as it did. -/
def isaTrapsSpec : ChangeSpec := { name := "isaTraps", fn := fun _ => fun
  | [d1, d2, d3, d4, d5] => { results := [.lit (.bool true)], args := [d1, d2, d3, d4, d5] }
  | _ => none }
def isaTrapsRow : OpenClaim := { program := "ytkogjjeoihnjpaagreat", sum := "923e57fa52c95c923a53d15e5543e6c764204dcbe3832f5db786f9d0a54468f6", func := "tappet/tappetlaw24.IsaTraps", spec := "isaTraps", unfollowed := true, recurses := true, apart := false }
def IsaTrapsSaid : Prop := isaTrapsRow.holds Tryz.pinned (OpenSpec.ofChange isaTrapsSpec)

/-- ITS FALSE NEIGHBOUR: 'it returns false'. Refute it at one input. -/
def isaTrapsWrong : ChangeSpec := { name := "isaTraps", fn := fun _ => fun
  | [d1, d2, d3, d4, d5] => { results := [.lit (.bool false)], args := [d1, d2, d3, d4, d5] }
  | _ => none }
def IsaTrapsWrongFalsely : Prop := isaTrapsRow.holds Tryz.pinned (OpenSpec.ofChange isaTrapsWrong)

/- THE SECOND FORM. 'bulk': how many values and letters a reading holds, each counted each time it is reached (what is shared counts as often as it is met; a slice's spare places count too). A statement '..UptoSaid' is the law's where the arguments, and the package variables that the reading takes, are together of bulk at most 1048576: NARROWER than '..Said'. Prove '..Said' where nothing that the law and all that it calls make is longer than what came in: it says more and counts as full. Else prove '..UptoSaid'. A law counts once. -/
mutual
def uptoBulk {H : Type} : DataW H → Nat
  | .lit (.string bytes) => bytes.length + 1
  | .lit _ => 1
  | .nil => 1
  | .ptr d => uptoBulk d + 1
  | .slice elems spare => uptoBulkAll elems + uptoBulkAll spare + 1
  | .agg parts => uptoBulkAll parts + 1
  | .iface _ d => uptoBulk d + 1
  | .map entries => uptoBulkEntries entries + 1
  | .held _ => 1
def uptoBulkAll {H : Type} : List (DataW H) → Nat
  | [] => 0
  | d :: r => uptoBulk d + uptoBulkAll r
def uptoBulkEntries {H : Type} : List (Lit × DataW H) → Nat
  | [] => 0
  | x :: r => uptoBulkEntry x + uptoBulkEntries r
def uptoBulkEntry {H : Type} : Lit × DataW H → Nat
  | (.string bytes, d) => bytes.length + uptoBulk d + 1
  | (_, d) => uptoBulk d + 1
 end
def uptoSmall : (H : Type) → List (DataW H) → Bool := fun _ ds => decide (uptoBulkAll ds ≤ 1048576)
def OpenSpec.upto (s : _root_.Go.ChangeSpec) : _root_.Go.OpenSpec := { _root_.Go.OpenSpec.ofChange s with cond := some uptoSmall }

/-- 'tappetlaw24.IsaKeeps', WHERE WHAT IT READS IS OF BULK AT MOST 1048576: true; the input reads as it did. -/
def isaKeepsUptoRow : OpenClaim := { program := "ytkogjjeoihnjpaagreat", sum := "923e57fa52c95c923a53d15e5543e6c764204dcbe3832f5db786f9d0a54468f6", func := "tappet/tappetlaw24.IsaKeeps", spec := "isaKeeps", unfollowed := true, recurses := true, apart := false, narrowed := true }
def IsaKeepsUptoSaid : Prop := isaKeepsUptoRow.holds Tryz.pinned (OpenSpec.upto isaKeepsSpec)

/-- 'tappetlaw24.IsaCounts', WHERE WHAT IT READS IS OF BULK AT MOST 1048576: true; the input reads as it did. -/
def isaCountsUptoRow : OpenClaim := { program := "ytkogjjeoihnjpaagreat", sum := "923e57fa52c95c923a53d15e5543e6c764204dcbe3832f5db786f9d0a54468f6", func := "tappet/tappetlaw24.IsaCounts", spec := "isaCounts", unfollowed := true, recurses := true, apart := false, narrowed := true }
def IsaCountsUptoSaid : Prop := isaCountsUptoRow.holds Tryz.pinned (OpenSpec.upto isaCountsSpec)

/-- 'tappetlaw24.IsaReserve', WHERE WHAT IT READS IS OF BULK AT MOST 1048576: true; the input reads as it did. -/
def isaReserveUptoRow : OpenClaim := { program := "ytkogjjeoihnjpaagreat", sum := "923e57fa52c95c923a53d15e5543e6c764204dcbe3832f5db786f9d0a54468f6", func := "tappet/tappetlaw24.IsaReserve", spec := "isaReserve", unfollowed := true, recurses := true, apart := false, narrowed := true }
def IsaReserveUptoSaid : Prop := isaReserveUptoRow.holds Tryz.pinned (OpenSpec.upto isaReserveSpec)

/-- 'tappetlaw24.IsaInts', WHERE WHAT IT READS IS OF BULK AT MOST 1048576: true; the input reads as it did. -/
def isaIntsUptoRow : OpenClaim := { program := "ytkogjjeoihnjpaagreat", sum := "923e57fa52c95c923a53d15e5543e6c764204dcbe3832f5db786f9d0a54468f6", func := "tappet/tappetlaw24.IsaInts", spec := "isaInts", unfollowed := true, recurses := true, apart := false, narrowed := true }
def IsaIntsUptoSaid : Prop := isaIntsUptoRow.holds Tryz.pinned (OpenSpec.upto isaIntsSpec)

/-- 'tappetlaw24.IsaRuns', WHERE WHAT IT READS IS OF BULK AT MOST 1048576: true; the input reads as it did. -/
def isaRunsUptoRow : OpenClaim := { program := "ytkogjjeoihnjpaagreat", sum := "923e57fa52c95c923a53d15e5543e6c764204dcbe3832f5db786f9d0a54468f6", func := "tappet/tappetlaw24.IsaRuns", spec := "isaRuns", unfollowed := true, recurses := true, apart := false, narrowed := true }
def IsaRunsUptoSaid : Prop := isaRunsUptoRow.holds Tryz.pinned (OpenSpec.upto isaRunsSpec)

/-- 'tappetlaw24.IsaAccess', WHERE WHAT IT READS IS OF BULK AT MOST 1048576: true; the input reads as it did. -/
def isaAccessUptoRow : OpenClaim := { program := "ytkogjjeoihnjpaagreat", sum := "923e57fa52c95c923a53d15e5543e6c764204dcbe3832f5db786f9d0a54468f6", func := "tappet/tappetlaw24.IsaAccess", spec := "isaAccess", unfollowed := true, recurses := true, apart := false, narrowed := true }
def IsaAccessUptoSaid : Prop := isaAccessUptoRow.holds Tryz.pinned (OpenSpec.upto isaAccessSpec)

/-- 'tappetlaw24.IsaLoads', WHERE WHAT IT READS IS OF BULK AT MOST 1048576: true; the input reads as it did. -/
def isaLoadsUptoRow : OpenClaim := { program := "ytkogjjeoihnjpaagreat", sum := "923e57fa52c95c923a53d15e5543e6c764204dcbe3832f5db786f9d0a54468f6", func := "tappet/tappetlaw24.IsaLoads", spec := "isaLoads", unfollowed := true, recurses := true, apart := false, narrowed := true }
def IsaLoadsUptoSaid : Prop := isaLoadsUptoRow.holds Tryz.pinned (OpenSpec.upto isaLoadsSpec)

/-- 'tappetlaw24.IsaSteps', WHERE WHAT IT READS IS OF BULK AT MOST 1048576: true; the input reads as it did. -/
def isaStepsUptoRow : OpenClaim := { program := "ytkogjjeoihnjpaagreat", sum := "923e57fa52c95c923a53d15e5543e6c764204dcbe3832f5db786f9d0a54468f6", func := "tappet/tappetlaw24.IsaSteps", spec := "isaSteps", unfollowed := true, recurses := true, apart := false, narrowed := true }
def IsaStepsUptoSaid : Prop := isaStepsUptoRow.holds Tryz.pinned (OpenSpec.upto isaStepsSpec)

/-- 'tappetlaw24.IsaTwins', WHERE WHAT IT READS IS OF BULK AT MOST 1048576: true; the input reads as it did. -/
def isaTwinsUptoRow : OpenClaim := { program := "ytkogjjeoihnjpaagreat", sum := "923e57fa52c95c923a53d15e5543e6c764204dcbe3832f5db786f9d0a54468f6", func := "tappet/tappetlaw24.IsaTwins", spec := "isaTwins", unfollowed := true, recurses := true, apart := false, narrowed := true }
def IsaTwinsUptoSaid : Prop := isaTwinsUptoRow.holds Tryz.pinned (OpenSpec.upto isaTwinsSpec)

/-- 'tappetlaw24.IsaPages', WHERE WHAT IT READS IS OF BULK AT MOST 1048576: true; the input reads as it did. -/
def isaPagesUptoRow : OpenClaim := { program := "ytkogjjeoihnjpaagreat", sum := "923e57fa52c95c923a53d15e5543e6c764204dcbe3832f5db786f9d0a54468f6", func := "tappet/tappetlaw24.IsaPages", spec := "isaPages", unfollowed := true, recurses := true, apart := false, narrowed := true }
def IsaPagesUptoSaid : Prop := isaPagesUptoRow.holds Tryz.pinned (OpenSpec.upto isaPagesSpec)

/-- 'tappetlaw24.IsaTraps', WHERE WHAT IT READS IS OF BULK AT MOST 1048576: true; the input reads as it did. -/
def isaTrapsUptoRow : OpenClaim := { program := "ytkogjjeoihnjpaagreat", sum := "923e57fa52c95c923a53d15e5543e6c764204dcbe3832f5db786f9d0a54468f6", func := "tappet/tappetlaw24.IsaTraps", spec := "isaTraps", unfollowed := true, recurses := true, apart := false, narrowed := true }
def IsaTrapsUptoSaid : Prop := isaTrapsUptoRow.holds Tryz.pinned (OpenSpec.upto isaTrapsSpec)

end Rows
end Go.Proofs.YtkogjjeoihnjpaaGreat
