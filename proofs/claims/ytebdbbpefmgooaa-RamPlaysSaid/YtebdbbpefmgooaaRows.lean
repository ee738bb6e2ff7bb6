/-
  No cell of these rows narrows 'for every input' (looked for: loops, veiled, ifaces, maps, wideKeys, modest, calm, conditions, laid).
  DERIVED. THE GIVEN ROWS OF THIS SEAT. 12 by the template 'for every input the law returns true; each argument reads behind the call as it read before'; 0 by the template 'total and deterministic' (their statements: YtebdbbpefmgooaaTotals.lean).
  GIVEN WITH THE SEED: the statements are not yours to turn. If you find one false, say at which input.
  Laid BY PROGRAM, IN A SANDBOX (cutbox-rows.mjs): the forced cells as the released guide's own fill.sh prints them over the translation 07c2ce126966d6e7… (all of the seat's roots in one cut). By AI agents, Wed Nov 11 2026. No macro, syntax, notation, axiom, sorry.
-/
import Derived.Test.YtebdbbpefmgooaaChecked
import GoSem.Claim
import GoSem.ClaimJoined
import GoSem.ClaimMapViews
import Derived.JoinedTies
import Derived.KernelRfl
namespace Go.Proofs.Ytebdbbpefmgooaa
/- THE CELL 'sum', in the pinned program and in every row, IS THE sha256 OF THE DUMP (.gsa) THAT YtebdbbpefmgooaaProg.lean LOADS. Nothing in Lean hashes anything: it is a label: what it is worth is what the hold of that sum in a sandbox is worth. -/
noncomputable def Try.pinned : Pinned := { name := "ytebdbbpefmgooaa", sum := "07c2ce126966d6e75d0d50a1cd38a49dff961401b0167f277e67f7360c727f29", checked := Try.checked }
namespace Rows
def none {H : Type} : Left H := { results := [], args := [] }

/-- 'tappetlaw14.RomReads': WHATEVER THE INPUT: true; the input reads as it did. -/
def romReadsSpec : ChangeSpec := { name := "romReads", fn := fun _ => fun
  | [d1, d2, d3] => { results := [.lit (.bool true)], args := [d1, d2, d3] }
  | _ => none }
def romReadsRow : OpenClaim := { program := "ytebdbbpefmgooaa", sum := "07c2ce126966d6e75d0d50a1cd38a49dff961401b0167f277e67f7360c727f29", func := "tappet/tappetlaw14.RomReads", spec := "romReads", apart := false }
def RomReadsSaid : Prop := romReadsRow.holds Try.pinned (OpenSpec.ofChange romReadsSpec)

/-- ITS FALSE NEIGHBOUR: 'it returns false'. Refute it at one input. -/
def romReadsWrong : ChangeSpec := { name := "romReads", fn := fun _ => fun
  | [d1, d2, d3] => { results := [.lit (.bool false)], args := [d1, d2, d3] }
  | _ => none }
def RomReadsWrongFalsely : Prop := romReadsRow.holds Try.pinned (OpenSpec.ofChange romReadsWrong)

/-- 'tappetlaw12.PlicOnce': WHATEVER THE INPUT: true; the input reads as it did. -/
def plicOnceSpec : ChangeSpec := { name := "plicOnce", fn := fun _ => fun
  | [d1, d2, d3, d4] => { results := [.lit (.bool true)], args := [d1, d2, d3, d4] }
  | _ => none }
def plicOnceRow : OpenClaim := { program := "ytebdbbpefmgooaa", sum := "07c2ce126966d6e75d0d50a1cd38a49dff961401b0167f277e67f7360c727f29", func := "tappet/tappetlaw12.PlicOnce", spec := "plicOnce", apart := false }
def PlicOnceSaid : Prop := plicOnceRow.holds Try.pinned (OpenSpec.ofChange plicOnceSpec)

/-- ITS FALSE NEIGHBOUR: 'it returns false'. Refute it at one input. -/
def plicOnceWrong : ChangeSpec := { name := "plicOnce", fn := fun _ => fun
  | [d1, d2, d3, d4] => { results := [.lit (.bool false)], args := [d1, d2, d3, d4] }
  | _ => none }
def PlicOnceWrongFalsely : Prop := plicOnceRow.holds Try.pinned (OpenSpec.ofChange plicOnceWrong)

/-- 'tappetlaw12.PlicOrder': WHATEVER THE INPUT: true; the input reads as it did. -/
def plicOrderSpec : ChangeSpec := { name := "plicOrder", fn := fun _ => fun
  | [d1, d2, d3] => { results := [.lit (.bool true)], args := [d1, d2, d3] }
  | _ => none }
def plicOrderRow : OpenClaim := { program := "ytebdbbpefmgooaa", sum := "07c2ce126966d6e75d0d50a1cd38a49dff961401b0167f277e67f7360c727f29", func := "tappet/tappetlaw12.PlicOrder", spec := "plicOrder", apart := false }
def PlicOrderSaid : Prop := plicOrderRow.holds Try.pinned (OpenSpec.ofChange plicOrderSpec)

/-- ITS FALSE NEIGHBOUR: 'it returns false'. Refute it at one input. -/
def plicOrderWrong : ChangeSpec := { name := "plicOrder", fn := fun _ => fun
  | [d1, d2, d3] => { results := [.lit (.bool false)], args := [d1, d2, d3] }
  | _ => none }
def PlicOrderWrongFalsely : Prop := plicOrderRow.holds Try.pinned (OpenSpec.ofChange plicOrderWrong)

/-- 'tappetlaw12.PlicThreshold': WHATEVER THE INPUT: true; the input reads as it did. -/
def plicThresholdSpec : ChangeSpec := { name := "plicThreshold", fn := fun _ => fun
  | [d1, d2, d3, d4] => { results := [.lit (.bool true)], args := [d1, d2, d3, d4] }
  | _ => none }
def plicThresholdRow : OpenClaim := { program := "ytebdbbpefmgooaa", sum := "07c2ce126966d6e75d0d50a1cd38a49dff961401b0167f277e67f7360c727f29", func := "tappet/tappetlaw12.PlicThreshold", spec := "plicThreshold", apart := false }
def PlicThresholdSaid : Prop := plicThresholdRow.holds Try.pinned (OpenSpec.ofChange plicThresholdSpec)

/-- ITS FALSE NEIGHBOUR: 'it returns false'. Refute it at one input. -/
def plicThresholdWrong : ChangeSpec := { name := "plicThreshold", fn := fun _ => fun
  | [d1, d2, d3, d4] => { results := [.lit (.bool false)], args := [d1, d2, d3, d4] }
  | _ => none }
def PlicThresholdWrongFalsely : Prop := plicThresholdRow.holds Try.pinned (OpenSpec.ofChange plicThresholdWrong)

/-- 'tappetlaw12.PlicPlays': WHATEVER THE INPUT: true; the input reads as it did. -/
def plicPlaysSpec : ChangeSpec := { name := "plicPlays", fn := fun _ => fun
  | [d1, d2] => { results := [.lit (.bool true)], args := [d1, d2] }
  | _ => none }
def plicPlaysRow : OpenClaim := { program := "ytebdbbpefmgooaa", sum := "07c2ce126966d6e75d0d50a1cd38a49dff961401b0167f277e67f7360c727f29", func := "tappet/tappetlaw12.PlicPlays", spec := "plicPlays", apart := false }
def PlicPlaysSaid : Prop := plicPlaysRow.holds Try.pinned (OpenSpec.ofChange plicPlaysSpec)

/-- ITS FALSE NEIGHBOUR: 'it returns false'. Refute it at one input. -/
def plicPlaysWrong : ChangeSpec := { name := "plicPlays", fn := fun _ => fun
  | [d1, d2] => { results := [.lit (.bool false)], args := [d1, d2] }
  | _ => none }
def PlicPlaysWrongFalsely : Prop := plicPlaysRow.holds Try.pinned (OpenSpec.ofChange plicPlaysWrong)

/-- 'tappetlaw12.PlicNil': WHATEVER THE INPUT: true; the input reads as it did. -/
def plicNilSpec : ChangeSpec := { name := "plicNil", fn := fun _ => fun
  | [d1, d2, d3, d4] => { results := [.lit (.bool true)], args := [d1, d2, d3, d4] }
  | _ => none }
def plicNilRow : OpenClaim := { program := "ytebdbbpefmgooaa", sum := "07c2ce126966d6e75d0d50a1cd38a49dff961401b0167f277e67f7360c727f29", func := "tappet/tappetlaw12.PlicNil", spec := "plicNil", apart := false }
def PlicNilSaid : Prop := plicNilRow.holds Try.pinned (OpenSpec.ofChange plicNilSpec)

/-- ITS FALSE NEIGHBOUR: 'it returns false'. Refute it at one input. -/
def plicNilWrong : ChangeSpec := { name := "plicNil", fn := fun _ => fun
  | [d1, d2, d3, d4] => { results := [.lit (.bool false)], args := [d1, d2, d3, d4] }
  | _ => none }
def PlicNilWrongFalsely : Prop := plicNilRow.holds Try.pinned (OpenSpec.ofChange plicNilWrong)

/-- 'tappetlaw14.RomLoads': WHATEVER THE INPUT: true; the input reads as it did. -/
def romLoadsSpec : ChangeSpec := { name := "romLoads", fn := fun _ => fun
  | [d1, d2, d3] => { results := [.lit (.bool true)], args := [d1, d2, d3] }
  | _ => none }
def romLoadsRow : OpenClaim := { program := "ytebdbbpefmgooaa", sum := "07c2ce126966d6e75d0d50a1cd38a49dff961401b0167f277e67f7360c727f29", func := "tappet/tappetlaw14.RomLoads", spec := "romLoads", unfollowed := true, recurses := true, apart := false }
def RomLoadsSaid : Prop := romLoadsRow.holds Try.pinned (OpenSpec.ofChange romLoadsSpec)

/-- ITS FALSE NEIGHBOUR: 'it returns false'. Refute it at one input. -/
def romLoadsWrong : ChangeSpec := { name := "romLoads", fn := fun _ => fun
  | [d1, d2, d3] => { results := [.lit (.bool false)], args := [d1, d2, d3] }
  | _ => none }
def RomLoadsWrongFalsely : Prop := romLoadsRow.holds Try.pinned (OpenSpec.ofChange romLoadsWrong)

/-- 'tappetlaw10.RamBack': WHATEVER THE INPUT: true; the input reads as it did. -/
def ramBackSpec : ChangeSpec := { name := "ramBack", fn := fun _ => fun
  | [d1, d2, d3, d4] => { results := [.lit (.bool true)], args := [d1, d2, d3, d4] }
  | _ => none }
def ramBackRow : OpenClaim := { program := "ytebdbbpefmgooaa", sum := "07c2ce126966d6e75d0d50a1cd38a49dff961401b0167f277e67f7360c727f29", func := "tappet/tappetlaw10.RamBack", spec := "ramBack", apart := false }
def RamBackSaid : Prop := ramBackRow.holds Try.pinned (OpenSpec.ofChange ramBackSpec)

/-- ITS FALSE NEIGHBOUR: 'it returns false'. Refute it at one input. -/
def ramBackWrong : ChangeSpec := { name := "ramBack", fn := fun _ => fun
  | [d1, d2, d3, d4] => { results := [.lit (.bool false)], args := [d1, d2, d3, d4] }
  | _ => none }
def RamBackWrongFalsely : Prop := ramBackRow.holds Try.pinned (OpenSpec.ofChange ramBackWrong)

/-- 'tappetlaw10.RamWords': WHATEVER THE INPUT: true; the input reads as it did. -/
def ramWordsSpec : ChangeSpec := { name := "ramWords", fn := fun _ => fun
  | [d1, d2] => { results := [.lit (.bool true)], args := [d1, d2] }
  | _ => none }
def ramWordsRow : OpenClaim := { program := "ytebdbbpefmgooaa", sum := "07c2ce126966d6e75d0d50a1cd38a49dff961401b0167f277e67f7360c727f29", func := "tappet/tappetlaw10.RamWords", spec := "ramWords", apart := false }
def RamWordsSaid : Prop := ramWordsRow.holds Try.pinned (OpenSpec.ofChange ramWordsSpec)

/-- ITS FALSE NEIGHBOUR: 'it returns false'. Refute it at one input. -/
def ramWordsWrong : ChangeSpec := { name := "ramWords", fn := fun _ => fun
  | [d1, d2] => { results := [.lit (.bool false)], args := [d1, d2] }
  | _ => none }
def RamWordsWrongFalsely : Prop := ramWordsRow.holds Try.pinned (OpenSpec.ofChange ramWordsWrong)

/-- 'tappetlaw10.RamStrobe': WHATEVER THE INPUT: true; the input reads as it did. -/
def ramStrobeSpec : ChangeSpec := { name := "ramStrobe", fn := fun _ => fun
  | [d1, d2, d3, d4] => { results := [.lit (.bool true)], args := [d1, d2, d3, d4] }
  | _ => none }
def ramStrobeRow : OpenClaim := { program := "ytebdbbpefmgooaa", sum := "07c2ce126966d6e75d0d50a1cd38a49dff961401b0167f277e67f7360c727f29", func := "tappet/tappetlaw10.RamStrobe", spec := "ramStrobe", apart := false }
def RamStrobeSaid : Prop := ramStrobeRow.holds Try.pinned (OpenSpec.ofChange ramStrobeSpec)

/-- ITS FALSE NEIGHBOUR: 'it returns false'. Refute it at one input. -/
def ramStrobeWrong : ChangeSpec := { name := "ramStrobe", fn := fun _ => fun
  | [d1, d2, d3, d4] => { results := [.lit (.bool false)], args := [d1, d2, d3, d4] }
  | _ => none }
def RamStrobeWrongFalsely : Prop := ramStrobeRow.holds Try.pinned (OpenSpec.ofChange ramStrobeWrong)

/-- 'tappetlaw10.RamPlays': WHATEVER THE INPUT: true; the input reads as it did. -/
def ramPlaysSpec : ChangeSpec := { name := "ramPlays", fn := fun _ => fun
  | [d1, d2] => { results := [.lit (.bool true)], args := [d1, d2] }
  | _ => none }
def ramPlaysRow : OpenClaim := { program := "ytebdbbpefmgooaa", sum := "07c2ce126966d6e75d0d50a1cd38a49dff961401b0167f277e67f7360c727f29", func := "tappet/tappetlaw10.RamPlays", spec := "ramPlays", unfollowed := true, recurses := true, apart := false }
def RamPlaysSaid : Prop := ramPlaysRow.holds Try.pinned (OpenSpec.ofChange ramPlaysSpec)

/-- ITS FALSE NEIGHBOUR: 'it returns false'. Refute it at one input. -/
def ramPlaysWrong : ChangeSpec := { name := "ramPlays", fn := fun _ => fun
  | [d1, d2] => { results := [.lit (.bool false)], args := [d1, d2] }
  | _ => none }
def RamPlaysWrongFalsely : Prop := ramPlaysRow.holds Try.pinned (OpenSpec.ofChange ramPlaysWrong)

/-- 'tappetlaw10.RamNil': WHATEVER THE INPUT: true; the input reads as it did. -/
def ramNilSpec : ChangeSpec := { name := "ramNil", fn := fun _ => fun
  | [d1, d2, d3, d4, d5] => { results := [.lit (.bool true)], args := [d1, d2, d3, d4, d5] }
  | _ => none }
def ramNilRow : OpenClaim := { program := "ytebdbbpefmgooaa", sum := "07c2ce126966d6e75d0d50a1cd38a49dff961401b0167f277e67f7360c727f29", func := "tappet/tappetlaw10.RamNil", spec := "ramNil", apart := false }
def RamNilSaid : Prop := ramNilRow.holds Try.pinned (OpenSpec.ofChange ramNilSpec)

/-- ITS FALSE NEIGHBOUR: 'it returns false'. Refute it at one input. -/
def ramNilWrong : ChangeSpec := { name := "ramNil", fn := fun _ => fun
  | [d1, d2, d3, d4, d5] => { results := [.lit (.bool false)], args := [d1, d2, d3, d4, d5] }
  | _ => none }
def RamNilWrongFalsely : Prop := ramNilRow.holds Try.pinned (OpenSpec.ofChange ramNilWrong)

/- THE SECOND FORM. 'bulk': how many values and letters a reading holds, each counted each time it is reached (what is shared counts as often as it is met; a slice's spare places count too). A statement '..UptoSaid' is the law's where the arguments, and the package variables that the reading takes, are together of bulk at most 1048576: NARROWER than '..Said'. Prove '..Said' where nothing that the law and all that it calls make is longer than what came in: it says more and counts as full. Else prove '..UptoSaid'. A law counts once. -/
mutual
def uptoBulk {H : Type} : DataW H → Nat
  | .lit (.string bytes) => bytes.length + 1
  | .lit _ => 1
  | .nil => 1
  | .ptr d => uptoBulk d + 1
  | .slice elems spare => uptoBulkAll elems + uptoBulkAll spare + 1
  | .agg parts => uptoBulkAll parts + 1
  | .iface _ d => uptoBulk d + 1
  | .map entries => uptoBulkEntries entries + 1
  | .held _ => 1
def uptoBulkAll {H : Type} : List (DataW H) → Nat
  | [] => 0
  | d :: r => uptoBulk d + uptoBulkAll r
def uptoBulkEntries {H : Type} : List (Lit × DataW H) → Nat
  | [] => 0
  | x :: r => uptoBulkEntry x + uptoBulkEntries r
def uptoBulkEntry {H : Type} : Lit × DataW H → Nat
  | (.string bytes, d) => bytes.length + uptoBulk d + 1
  | (_, d) => uptoBulk d + 1
 end
def uptoSmall : (H : Type) → List (DataW H) → Bool := fun _ ds => decide (uptoBulkAll ds ≤ 1048576)
def OpenSpec.upto (s : _root_.Go.ChangeSpec) : _root_.Go.OpenSpec := { _root_.Go.OpenSpec.ofChange s with cond := some uptoSmall }

/-- 'tappetlaw14.RomReads', WHERE WHAT IT READS IS OF BULK AT MOST 1048576: true; the input reads as it did. -/
def romReadsUptoRow : OpenClaim := { program := "ytebdbbpefmgooaa", sum := "07c2ce126966d6e75d0d50a1cd38a49dff961401b0167f277e67f7360c727f29", func := "tappet/tappetlaw14.RomReads", spec := "romReads", apart := false, narrowed := true }
def RomReadsUptoSaid : Prop := romReadsUptoRow.holds Try.pinned (OpenSpec.upto romReadsSpec)

/-- 'tappetlaw12.PlicOnce', WHERE WHAT IT READS IS OF BULK AT MOST 1048576: true; the input reads as it did. -/
def plicOnceUptoRow : OpenClaim := { program := "ytebdbbpefmgooaa", sum := "07c2ce126966d6e75d0d50a1cd38a49dff961401b0167f277e67f7360c727f29", func := "tappet/tappetlaw12.PlicOnce", spec := "plicOnce", apart := false, narrowed := true }
def PlicOnceUptoSaid : Prop := plicOnceUptoRow.holds Try.pinned (OpenSpec.upto plicOnceSpec)

/-- 'tappetlaw12.PlicOrder', WHERE WHAT IT READS IS OF BULK AT MOST 1048576: true; the input reads as it did. -/
def plicOrderUptoRow : OpenClaim := { program := "ytebdbbpefmgooaa", sum := "07c2ce126966d6e75d0d50a1cd38a49dff961401b0167f277e67f7360c727f29", func := "tappet/tappetlaw12.PlicOrder", spec := "plicOrder", apart := false, narrowed := true }
def PlicOrderUptoSaid : Prop := plicOrderUptoRow.holds Try.pinned (OpenSpec.upto plicOrderSpec)

/-- 'tappetlaw12.PlicThreshold', WHERE WHAT IT READS IS OF BULK AT MOST 1048576: true; the input reads as it did. -/
def plicThresholdUptoRow : OpenClaim := { program := "ytebdbbpefmgooaa", sum := "07c2ce126966d6e75d0d50a1cd38a49dff961401b0167f277e67f7360c727f29", func := "tappet/tappetlaw12.PlicThreshold", spec := "plicThreshold", apart := false, narrowed := true }
def PlicThresholdUptoSaid : Prop := plicThresholdUptoRow.holds Try.pinned (OpenSpec.upto plicThresholdSpec)

/-- 'tappetlaw12.PlicPlays', WHERE WHAT IT READS IS OF BULK AT MOST 1048576: true; the input reads as it did. -/
def plicPlaysUptoRow : OpenClaim := { program := "ytebdbbpefmgooaa", sum := "07c2ce126966d6e75d0d50a1cd38a49dff961401b0167f277e67f7360c727f29", func := "tappet/tappetlaw12.PlicPlays", spec := "plicPlays", apart := false, narrowed := true }
def PlicPlaysUptoSaid : Prop := plicPlaysUptoRow.holds Try.pinned (OpenSpec.upto plicPlaysSpec)

/-- 'tappetlaw12.PlicNil', WHERE WHAT IT READS IS OF BULK AT MOST 1048576: true; the input reads as it did. -/
def plicNilUptoRow : OpenClaim := { program := "ytebdbbpefmgooaa", sum := "07c2ce126966d6e75d0d50a1cd38a49dff961401b0167f277e67f7360c727f29", func := "tappet/tappetlaw12.PlicNil", spec := "plicNil", apart := false, narrowed := true }
def PlicNilUptoSaid : Prop := plicNilUptoRow.holds Try.pinned (OpenSpec.upto plicNilSpec)

/-- 'tappetlaw14.RomLoads', WHERE WHAT IT READS IS OF BULK AT MOST 1048576: true; the input reads as it did. -/
def romLoadsUptoRow : OpenClaim := { program := "ytebdbbpefmgooaa", sum := "07c2ce126966d6e75d0d50a1cd38a49dff961401b0167f277e67f7360c727f29", func := "tappet/tappetlaw14.RomLoads", spec := "romLoads", unfollowed := true, recurses := true, apart := false, narrowed := true }
def RomLoadsUptoSaid : Prop := romLoadsUptoRow.holds Try.pinned (OpenSpec.upto romLoadsSpec)

/-- 'tappetlaw10.RamBack', WHERE WHAT IT READS IS OF BULK AT MOST 1048576: true; the input reads as it did. -/
def ramBackUptoRow : OpenClaim := { program := "ytebdbbpefmgooaa", sum := "07c2ce126966d6e75d0d50a1cd38a49dff961401b0167f277e67f7360c727f29", func := "tappet/tappetlaw10.RamBack", spec := "ramBack", apart := false, narrowed := true }
def RamBackUptoSaid : Prop := ramBackUptoRow.holds Try.pinned (OpenSpec.upto ramBackSpec)

/-- 'tappetlaw10.RamWords', WHERE WHAT IT READS IS OF BULK AT MOST 1048576: true; the input reads as it did. -/
def ramWordsUptoRow : OpenClaim := { program := "ytebdbbpefmgooaa", sum := "07c2ce126966d6e75d0d50a1cd38a49dff961401b0167f277e67f7360c727f29", func := "tappet/tappetlaw10.RamWords", spec := "ramWords", apart := false, narrowed := true }
def RamWordsUptoSaid : Prop := ramWordsUptoRow.holds Try.pinned (OpenSpec.upto ramWordsSpec)

/-- 'tappetlaw10.RamStrobe', WHERE WHAT IT READS IS OF BULK AT MOST 1048576: true; the input reads as it did. -/
def ramStrobeUptoRow : OpenClaim := { program := "ytebdbbpefmgooaa", sum := "07c2ce126966d6e75d0d50a1cd38a49dff961401b0167f277e67f7360c727f29", func := "tappet/tappetlaw10.RamStrobe", spec := "ramStrobe", apart := false, narrowed := true }
def RamStrobeUptoSaid : Prop := ramStrobeUptoRow.holds Try.pinned (OpenSpec.upto ramStrobeSpec)

/-- 'tappetlaw10.RamPlays', WHERE WHAT IT READS IS OF BULK AT MOST 1048576: true; the input reads as it did. -/
def ramPlaysUptoRow : OpenClaim := { program := "ytebdbbpefmgooaa", sum := "07c2ce126966d6e75d0d50a1cd38a49dff961401b0167f277e67f7360c727f29", func := "tappet/tappetlaw10.RamPlays", spec := "ramPlays", unfollowed := true, recurses := true, apart := false, narrowed := true }
def RamPlaysUptoSaid : Prop := ramPlaysUptoRow.holds Try.pinned (OpenSpec.upto ramPlaysSpec)

/-- 'tappetlaw10.RamNil', WHERE WHAT IT READS IS OF BULK AT MOST 1048576: true; the input reads as it did. -/
def ramNilUptoRow : OpenClaim := { program := "ytebdbbpefmgooaa", sum := "07c2ce126966d6e75d0d50a1cd38a49dff961401b0167f277e67f7360c727f29", func := "tappet/tappetlaw10.RamNil", spec := "ramNil", apart := false, narrowed := true }
def RamNilUptoSaid : Prop := ramNilUptoRow.holds Try.pinned (OpenSpec.upto ramNilSpec)

end Rows
end Go.Proofs.Ytebdbbpefmgooaa
