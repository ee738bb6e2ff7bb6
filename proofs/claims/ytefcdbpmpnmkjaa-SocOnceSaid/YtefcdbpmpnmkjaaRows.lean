/-
  No cell of these rows narrows 'for every input' (looked for: loops, veiled, ifaces, maps, wideKeys, modest, calm, conditions, laid).
  DERIVED. THE GIVEN ROWS OF THIS SEAT. 4 by the template 'for every input the law returns true; each argument reads behind the call as it read before'; 0 by the template 'total and deterministic' (their statements: YtefcdbpmpnmkjaaTotals.lean).
  GIVEN WITH THE SEED: the statements are not yours to turn. If you find one false, say at which input.
  Laid BY PROGRAM, IN A SANDBOX (cutbox-rows.mjs): the forced cells as the released guide's own fill.sh prints them over the translation f57749ecc4f6e085… (all of the seat's roots in one cut). By AI agents, Wed Nov 11 2026. No macro, syntax, notation, axiom, sorry.
-/
import Derived.Test.YtefcdbpmpnmkjaaChecked
import GoSem.Claim
import GoSem.ClaimJoined
import GoSem.ClaimMapViews
import Derived.JoinedTies
import Derived.KernelRfl
namespace Go.Proofs.Ytefcdbpmpnmkjaa
/- THE CELL 'sum', in the pinned program and in every row, IS THE sha256 OF THE DUMP (.gsa) THAT YtefcdbpmpnmkjaaProg.lean LOADS. Nothing in Lean hashes anything: it is a label: what it is worth is what the hold of that sum in a sandbox is worth. -/
noncomputable def Try.pinned : Pinned := { name := "ytefcdbpmpnmkjaa", sum := "f57749ecc4f6e0857c4261c34a6e95579b5755b210c0d4fe9d0b64996c2f8ce5", checked := Try.checked }
namespace Rows
def none {H : Type} : Left H := { results := [], args := [] }

/-- 'tappetlaw25.SocLines': WHATEVER THE INPUT: true; the input reads as it did. -/
def socLinesSpec : ChangeSpec := { name := "socLines", fn := fun _ => fun
  | [d1, d2, d3] => { results := [.lit (.bool true)], args := [d1, d2, d3] }
  | _ => none }
def socLinesRow : OpenClaim := { program := "ytefcdbpmpnmkjaa", sum := "f57749ecc4f6e0857c4261c34a6e95579b5755b210c0d4fe9d0b64996c2f8ce5", func := "tappet/tappetlaw25.SocLines", spec := "socLines", unfollowed := true, recurses := true, apart := false }
def SocLinesSaid : Prop := socLinesRow.holds Try.pinned (OpenSpec.ofChange socLinesSpec)

/-- ITS FALSE NEIGHBOUR: 'it returns false'. Refute it at one input. -/
def socLinesWrong : ChangeSpec := { name := "socLines", fn := fun _ => fun
  | [d1, d2, d3] => { results := [.lit (.bool false)], args := [d1, d2, d3] }
  | _ => none }
def SocLinesWrongFalsely : Prop := socLinesRow.holds Try.pinned (OpenSpec.ofChange socLinesWrong)

/-- 'tappetlaw25.SocBeats': WHATEVER THE INPUT: true; the input reads as it did. -/
def socBeatsSpec : ChangeSpec := { name := "socBeats", fn := fun _ => fun
  | [d1, d2, d3, d4] => { results := [.lit (.bool true)], args := [d1, d2, d3, d4] }
  | _ => none }
def socBeatsRow : OpenClaim := { program := "ytefcdbpmpnmkjaa", sum := "f57749ecc4f6e0857c4261c34a6e95579b5755b210c0d4fe9d0b64996c2f8ce5", func := "tappet/tappetlaw25.SocBeats", spec := "socBeats", unfollowed := true, recurses := true, apart := false }
def SocBeatsSaid : Prop := socBeatsRow.holds Try.pinned (OpenSpec.ofChange socBeatsSpec)

/-- ITS FALSE NEIGHBOUR: 'it returns false'. Refute it at one input. -/
def socBeatsWrong : ChangeSpec := { name := "socBeats", fn := fun _ => fun
  | [d1, d2, d3, d4] => { results := [.lit (.bool false)], args := [d1, d2, d3, d4] }
  | _ => none }
def SocBeatsWrongFalsely : Prop := socBeatsRow.holds Try.pinned (OpenSpec.ofChange socBeatsWrong)

/-- 'tappetlaw25.SocOnce': WHATEVER THE INPUT: true; the input reads as it did. -/
def socOnceSpec : ChangeSpec := { name := "socOnce", fn := fun _ => fun
  | [d] => { results := [.lit (.bool true)], args := [d] }
  | _ => none }
def socOnceRow : OpenClaim := { program := "ytefcdbpmpnmkjaa", sum := "f57749ecc4f6e0857c4261c34a6e95579b5755b210c0d4fe9d0b64996c2f8ce5", func := "tappet/tappetlaw25.SocOnce", spec := "socOnce", unfollowed := true, recurses := true, apart := false }
def SocOnceSaid : Prop := socOnceRow.holds Try.pinned (OpenSpec.ofChange socOnceSpec)

/-- ITS FALSE NEIGHBOUR: 'it returns false'. Refute it at one input. -/
def socOnceWrong : ChangeSpec := { name := "socOnce", fn := fun _ => fun
  | [d] => { results := [.lit (.bool false)], args := [d] }
  | _ => none }
def SocOnceWrongFalsely : Prop := socOnceRow.holds Try.pinned (OpenSpec.ofChange socOnceWrong)

/-- 'tappetlaw25.SocNil': WHATEVER THE INPUT: true; the input reads as it did. -/
def socNilSpec : ChangeSpec := { name := "socNil", fn := fun _ => fun
  | [d1, d2, d3, d4, d5] => { results := [.lit (.bool true)], args := [d1, d2, d3, d4, d5] }
  | _ => none }
def socNilRow : OpenClaim := { program := "ytefcdbpmpnmkjaa", sum := "f57749ecc4f6e0857c4261c34a6e95579b5755b210c0d4fe9d0b64996c2f8ce5", func := "tappet/tappetlaw25.SocNil", spec := "socNil", unfollowed := true, recurses := true, apart := false }
def SocNilSaid : Prop := socNilRow.holds Try.pinned (OpenSpec.ofChange socNilSpec)

/-- ITS FALSE NEIGHBOUR: 'it returns false'. Refute it at one input. -/
def socNilWrong : ChangeSpec := { name := "socNil", fn := fun _ => fun
  | [d1, d2, d3, d4, d5] => { results := [.lit (.bool false)], args := [d1, d2, d3, d4, d5] }
  | _ => none }
def SocNilWrongFalsely : Prop := socNilRow.holds Try.pinned (OpenSpec.ofChange socNilWrong)

/- THE SECOND FORM. 'bulk': how many values and letters a reading holds, each counted each time it is reached (what is shared counts as often as it is met; a slice's spare places count too). A statement '..UptoSaid' is the law's where the arguments, and the package variables that the reading takes, are together of bulk at most 1048576: NARROWER than '..Said'. Prove '..Said' where nothing that the law and all that it calls make is longer than what came in: it says more and counts as full. Else prove '..UptoSaid'. A law counts once. -/
mutual
def uptoBulk {H : Type} : DataW H → Nat
  | .lit (.string bytes) => bytes.length + 1
  | .lit _ => 1
  | .nil => 1
  | .ptr d => uptoBulk d + 1
  | .slice elems spare => uptoBulkAll elems + uptoBulkAll spare + 1
  | .agg parts => uptoBulkAll parts + 1
  | .iface _ d => uptoBulk d + 1
  | .map entries => uptoBulkEntries entries + 1
  | .held _ => 1
def uptoBulkAll {H : Type} : List (DataW H) → Nat
  | [] => 0
  | d :: r => uptoBulk d + uptoBulkAll r
def uptoBulkEntries {H : Type} : List (Lit × DataW H) → Nat
  | [] => 0
  | x :: r => uptoBulkEntry x + uptoBulkEntries r
def uptoBulkEntry {H : Type} : Lit × DataW H → Nat
  | (.string bytes, d) => bytes.length + uptoBulk d + 1
  | (_, d) => uptoBulk d + 1
 end
def uptoSmall : (H : Type) → List (DataW H) → Bool := fun _ ds => decide (uptoBulkAll ds ≤ 1048576)
def OpenSpec.upto (s : _root_.Go.ChangeSpec) : _root_.Go.OpenSpec := { _root_.Go.OpenSpec.ofChange s with cond := some uptoSmall }

/-- 'tappetlaw25.SocLines', WHERE WHAT IT READS IS OF BULK AT MOST 1048576: true; the input reads as it did. -/
def socLinesUptoRow : OpenClaim := { program := "ytefcdbpmpnmkjaa", sum := "f57749ecc4f6e0857c4261c34a6e95579b5755b210c0d4fe9d0b64996c2f8ce5", func := "tappet/tappetlaw25.SocLines", spec := "socLines", unfollowed := true, recurses := true, apart := false, narrowed := true }
def SocLinesUptoSaid : Prop := socLinesUptoRow.holds Try.pinned (OpenSpec.upto socLinesSpec)

/-- 'tappetlaw25.SocBeats', WHERE WHAT IT READS IS OF BULK AT MOST 1048576: true; the input reads as it did. -/
def socBeatsUptoRow : OpenClaim := { program := "ytefcdbpmpnmkjaa", sum := "f57749ecc4f6e0857c4261c34a6e95579b5755b210c0d4fe9d0b64996c2f8ce5", func := "tappet/tappetlaw25.SocBeats", spec := "socBeats", unfollowed := true, recurses := true, apart := false, narrowed := true }
def SocBeatsUptoSaid : Prop := socBeatsUptoRow.holds Try.pinned (OpenSpec.upto socBeatsSpec)

/-- 'tappetlaw25.SocOnce', WHERE WHAT IT READS IS OF BULK AT MOST 1048576: true; the input reads as it did. -/
def socOnceUptoRow : OpenClaim := { program := "ytefcdbpmpnmkjaa", sum := "f57749ecc4f6e0857c4261c34a6e95579b5755b210c0d4fe9d0b64996c2f8ce5", func := "tappet/tappetlaw25.SocOnce", spec := "socOnce", unfollowed := true, recurses := true, apart := false, narrowed := true }
def SocOnceUptoSaid : Prop := socOnceUptoRow.holds Try.pinned (OpenSpec.upto socOnceSpec)

/-- 'tappetlaw25.SocNil', WHERE WHAT IT READS IS OF BULK AT MOST 1048576: true; the input reads as it did. -/
def socNilUptoRow : OpenClaim := { program := "ytefcdbpmpnmkjaa", sum := "f57749ecc4f6e0857c4261c34a6e95579b5755b210c0d4fe9d0b64996c2f8ce5", func := "tappet/tappetlaw25.SocNil", spec := "socNil", unfollowed := true, recurses := true, apart := false, narrowed := true }
def SocNilUptoSaid : Prop := socNilUptoRow.holds Try.pinned (OpenSpec.upto socNilSpec)

end Rows
end Go.Proofs.Ytefcdbpmpnmkjaa
