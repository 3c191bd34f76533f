/-
  No cell of these rows narrows 'for every input' (looked for: loops, veiled, ifaces, maps, wideKeys, modest, calm, conditions, laid).
  DERIVED. THE GIVEN ROWS OF THIS SEAT. 9 by the template 'for every input the law returns true; each argument reads behind the call as it read before'; 0 by the template 'total and deterministic' (their statements: YtnlklhlnnoihiaaTotals.lean).
  GIVEN WITH THE SEED: the statements are not yours to turn. If you find one false, say at which input.
  Laid BY PROGRAM, IN A SANDBOX (cutbox-rows.mjs): the forced cells as the released guide's own fill.sh prints them over the translation 4e9ee22c5f70a9e6… (all of the seat's roots in one cut). By AI agents, Wed Nov 11 2026. No macro, syntax, notation, axiom, sorry.
-/
import Derived.Test.YtnlklhlnnoihiaaChecked
import GoSem.Claim
import GoSem.ClaimJoined
import GoSem.ClaimMapViews
import Derived.JoinedTies
import Derived.KernelRfl
namespace Go.Proofs.Ytnlklhlnnoihiaa
/- THE CELL 'sum', in the pinned program and in every row, IS THE sha256 OF THE DUMP (.gsa) THAT YtnlklhlnnoihiaaProg.lean LOADS. Nothing in Lean hashes anything: it is a label: what it is worth is what the hold of that sum in a sandbox is worth. -/
noncomputable def Try.pinned : Pinned := { name := "ytnlklhlnnoihiaa", sum := "4e9ee22c5f70a9e68f3430b930e06dc7c8de7fd022a543536bde6cec7b389ea4", checked := Try.checked }
namespace Rows
def none {H : Type} : Left H := { results := [], args := [] }

/-- 'hearsaylaw8.OpChecks': WHATEVER THE INPUT: true; the input reads as it did. -/
def opChecksSpec : ChangeSpec := { name := "opChecks", fn := fun _ => fun
  | [d1, d2, d3, d4] => { results := [.lit (.bool true)], args := [d1, d2, d3, d4] }
  | _ => none }
def opChecksRow : OpenClaim := { program := "ytnlklhlnnoihiaa", sum := "4e9ee22c5f70a9e68f3430b930e06dc7c8de7fd022a543536bde6cec7b389ea4", func := "hearsay/hearsaylaw8.OpChecks", spec := "opChecks", unfollowed := true, recurses := true, apart := false }
def OpChecksSaid : Prop := opChecksRow.holds Try.pinned (OpenSpec.ofChange opChecksSpec)

/-- ITS FALSE NEIGHBOUR: 'it returns false'. Refute it at one input. -/
def opChecksWrong : ChangeSpec := { name := "opChecks", fn := fun _ => fun
  | [d1, d2, d3, d4] => { results := [.lit (.bool false)], args := [d1, d2, d3, d4] }
  | _ => none }
def OpChecksWrongFalsely : Prop := opChecksRow.holds Try.pinned (OpenSpec.ofChange opChecksWrong)

/-- 'hearsaylaw8.OpDecodes': WHATEVER THE INPUT: true; the input reads as it did. -/
def opDecodesSpec : ChangeSpec := { name := "opDecodes", fn := fun _ => fun
  | [d1, d2, d3] => { results := [.lit (.bool true)], args := [d1, d2, d3] }
  | _ => none }
def opDecodesRow : OpenClaim := { program := "ytnlklhlnnoihiaa", sum := "4e9ee22c5f70a9e68f3430b930e06dc7c8de7fd022a543536bde6cec7b389ea4", func := "hearsay/hearsaylaw8.OpDecodes", spec := "opDecodes", unfollowed := true, recurses := true, apart := false }
def OpDecodesSaid : Prop := opDecodesRow.holds Try.pinned (OpenSpec.ofChange opDecodesSpec)

/-- ITS FALSE NEIGHBOUR: 'it returns false'. Refute it at one input. -/
def opDecodesWrong : ChangeSpec := { name := "opDecodes", fn := fun _ => fun
  | [d1, d2, d3] => { results := [.lit (.bool false)], args := [d1, d2, d3] }
  | _ => none }
def OpDecodesWrongFalsely : Prop := opDecodesRow.holds Try.pinned (OpenSpec.ofChange opDecodesWrong)

/-- 'hearsaylaw8.OpNothing': WHATEVER THE INPUT: true; the input reads as it did. -/
def opNothingSpec : ChangeSpec := { name := "opNothing", fn := fun _ => fun
  | [d] => { results := [.lit (.bool true)], args := [d] }
  | _ => none }
def opNothingRow : OpenClaim := { program := "ytnlklhlnnoihiaa", sum := "4e9ee22c5f70a9e68f3430b930e06dc7c8de7fd022a543536bde6cec7b389ea4", func := "hearsay/hearsaylaw8.OpNothing", spec := "opNothing", unfollowed := true, recurses := true, apart := false }
def OpNothingSaid : Prop := opNothingRow.holds Try.pinned (OpenSpec.ofChange opNothingSpec)

/-- ITS FALSE NEIGHBOUR: 'it returns false'. Refute it at one input. -/
def opNothingWrong : ChangeSpec := { name := "opNothing", fn := fun _ => fun
  | [d] => { results := [.lit (.bool false)], args := [d] }
  | _ => none }
def OpNothingWrongFalsely : Prop := opNothingRow.holds Try.pinned (OpenSpec.ofChange opNothingWrong)

/-- 'hearsaylaw8.OpBack': WHATEVER THE INPUT: true; the input reads as it did. -/
def opBackSpec : ChangeSpec := { name := "opBack", fn := fun _ => fun
  | [d1, d2] => { results := [.lit (.bool true)], args := [d1, d2] }
  | _ => none }
def opBackRow : OpenClaim := { program := "ytnlklhlnnoihiaa", sum := "4e9ee22c5f70a9e68f3430b930e06dc7c8de7fd022a543536bde6cec7b389ea4", func := "hearsay/hearsaylaw8.OpBack", spec := "opBack", unfollowed := true, recurses := true, apart := false }
def OpBackSaid : Prop := opBackRow.holds Try.pinned (OpenSpec.ofChange opBackSpec)

/-- ITS FALSE NEIGHBOUR: 'it returns false'. Refute it at one input. -/
def opBackWrong : ChangeSpec := { name := "opBack", fn := fun _ => fun
  | [d1, d2] => { results := [.lit (.bool false)], args := [d1, d2] }
  | _ => none }
def OpBackWrongFalsely : Prop := opBackRow.holds Try.pinned (OpenSpec.ofChange opBackWrong)

/-- 'hearsaylaw8.OpForm': WHATEVER THE INPUT: true; the input reads as it did. -/
def opFormSpec : ChangeSpec := { name := "opForm", fn := fun _ => fun
  | [d1, d2, d3] => { results := [.lit (.bool true)], args := [d1, d2, d3] }
  | _ => none }
def opFormRow : OpenClaim := { program := "ytnlklhlnnoihiaa", sum := "4e9ee22c5f70a9e68f3430b930e06dc7c8de7fd022a543536bde6cec7b389ea4", func := "hearsay/hearsaylaw8.OpForm", spec := "opForm", unfollowed := true, recurses := true, apart := false }
def OpFormSaid : Prop := opFormRow.holds Try.pinned (OpenSpec.ofChange opFormSpec)

/-- ITS FALSE NEIGHBOUR: 'it returns false'. Refute it at one input. -/
def opFormWrong : ChangeSpec := { name := "opForm", fn := fun _ => fun
  | [d1, d2, d3] => { results := [.lit (.bool false)], args := [d1, d2, d3] }
  | _ => none }
def OpFormWrongFalsely : Prop := opFormRow.holds Try.pinned (OpenSpec.ofChange opFormWrong)

/-- 'hearsaylaw8.OpEdges': WHATEVER THE INPUT: true; the input reads as it did. -/
def opEdgesSpec : ChangeSpec := { name := "opEdges", fn := fun _ => fun
  | [d1, d2, d3] => { results := [.lit (.bool true)], args := [d1, d2, d3] }
  | _ => none }
def opEdgesRow : OpenClaim := { program := "ytnlklhlnnoihiaa", sum := "4e9ee22c5f70a9e68f3430b930e06dc7c8de7fd022a543536bde6cec7b389ea4", func := "hearsay/hearsaylaw8.OpEdges", spec := "opEdges", unfollowed := true, recurses := true, apart := false }
def OpEdgesSaid : Prop := opEdgesRow.holds Try.pinned (OpenSpec.ofChange opEdgesSpec)

/-- ITS FALSE NEIGHBOUR: 'it returns false'. Refute it at one input. -/
def opEdgesWrong : ChangeSpec := { name := "opEdges", fn := fun _ => fun
  | [d1, d2, d3] => { results := [.lit (.bool false)], args := [d1, d2, d3] }
  | _ => none }
def OpEdgesWrongFalsely : Prop := opEdgesRow.holds Try.pinned (OpenSpec.ofChange opEdgesWrong)

/-- 'hearsaylaw8.OpOwn': WHATEVER THE INPUT: true; the input reads as it did. -/
def opOwnSpec : ChangeSpec := { name := "opOwn", fn := fun _ => fun
  | [d] => { results := [.lit (.bool true)], args := [d] }
  | _ => none }
def opOwnRow : OpenClaim := { program := "ytnlklhlnnoihiaa", sum := "4e9ee22c5f70a9e68f3430b930e06dc7c8de7fd022a543536bde6cec7b389ea4", func := "hearsay/hearsaylaw8.OpOwn", spec := "opOwn", unfollowed := true, recurses := true, apart := false }
def OpOwnSaid : Prop := opOwnRow.holds Try.pinned (OpenSpec.ofChange opOwnSpec)

/-- ITS FALSE NEIGHBOUR: 'it returns false'. Refute it at one input. -/
def opOwnWrong : ChangeSpec := { name := "opOwn", fn := fun _ => fun
  | [d] => { results := [.lit (.bool false)], args := [d] }
  | _ => none }
def OpOwnWrongFalsely : Prop := opOwnRow.holds Try.pinned (OpenSpec.ofChange opOwnWrong)

/-- 'hearsaylaw8.OpEncodes': WHATEVER THE INPUT: true; the input reads as it did. -/
def opEncodesSpec : ChangeSpec := { name := "opEncodes", fn := fun _ => fun
  | [d1, d2] => { results := [.lit (.bool true)], args := [d1, d2] }
  | _ => none }
def opEncodesRow : OpenClaim := { program := "ytnlklhlnnoihiaa", sum := "4e9ee22c5f70a9e68f3430b930e06dc7c8de7fd022a543536bde6cec7b389ea4", func := "hearsay/hearsaylaw8.OpEncodes", spec := "opEncodes", unfollowed := true, recurses := true, apart := false }
def OpEncodesSaid : Prop := opEncodesRow.holds Try.pinned (OpenSpec.ofChange opEncodesSpec)

/-- ITS FALSE NEIGHBOUR: 'it returns false'. Refute it at one input. -/
def opEncodesWrong : ChangeSpec := { name := "opEncodes", fn := fun _ => fun
  | [d1, d2] => { results := [.lit (.bool false)], args := [d1, d2] }
  | _ => none }
def OpEncodesWrongFalsely : Prop := opEncodesRow.holds Try.pinned (OpenSpec.ofChange opEncodesWrong)

/-- 'hearsaylaw8.OpStream': WHATEVER THE INPUT: true; the input reads as it did. -/
def opStreamSpec : ChangeSpec := { name := "opStream", fn := fun _ => fun
  | [d] => { results := [.lit (.bool true)], args := [d] }
  | _ => none }
def opStreamRow : OpenClaim := { program := "ytnlklhlnnoihiaa", sum := "4e9ee22c5f70a9e68f3430b930e06dc7c8de7fd022a543536bde6cec7b389ea4", func := "hearsay/hearsaylaw8.OpStream", spec := "opStream", unfollowed := true, recurses := true, apart := false }
def OpStreamSaid : Prop := opStreamRow.holds Try.pinned (OpenSpec.ofChange opStreamSpec)

/-- ITS FALSE NEIGHBOUR: 'it returns false'. Refute it at one input. -/
def opStreamWrong : ChangeSpec := { name := "opStream", fn := fun _ => fun
  | [d] => { results := [.lit (.bool false)], args := [d] }
  | _ => none }
def OpStreamWrongFalsely : Prop := opStreamRow.holds Try.pinned (OpenSpec.ofChange opStreamWrong)

/- THE SECOND FORM. 'bulk': how many values and letters a reading holds, each counted each time it is reached (what is shared counts as often as it is met; a slice's spare places count too). A statement '..UptoSaid' is the law's where the arguments, and the package variables that the reading takes, are together of bulk at most 1048576: NARROWER than '..Said'. Prove '..Said' where nothing that the law and all that it calls make is longer than what came in: it says more and counts as full. Else prove '..UptoSaid'. A law counts once. -/
mutual
def uptoBulk {H : Type} : DataW H → Nat
  | .lit (.string bytes) => bytes.length + 1
  | .lit _ => 1
  | .nil => 1
  | .ptr d => uptoBulk d + 1
  | .slice elems spare => uptoBulkAll elems + uptoBulkAll spare + 1
  | .agg parts => uptoBulkAll parts + 1
  | .iface _ d => uptoBulk d + 1
  | .map entries => uptoBulkEntries entries + 1
  | .held _ => 1
def uptoBulkAll {H : Type} : List (DataW H) → Nat
  | [] => 0
  | d :: r => uptoBulk d + uptoBulkAll r
def uptoBulkEntries {H : Type} : List (Lit × DataW H) → Nat
  | [] => 0
  | x :: r => uptoBulkEntry x + uptoBulkEntries r
def uptoBulkEntry {H : Type} : Lit × DataW H → Nat
  | (.string bytes, d) => bytes.length + uptoBulk d + 1
  | (_, d) => uptoBulk d + 1
 end
def uptoSmall : (H : Type) → List (DataW H) → Bool := fun _ ds => decide (uptoBulkAll ds ≤ 1048576)
def OpenSpec.upto (s : _root_.Go.ChangeSpec) : _root_.Go.OpenSpec := { _root_.Go.OpenSpec.ofChange s with cond := some uptoSmall }

/-- 'hearsaylaw8.OpChecks', WHERE WHAT IT READS IS OF BULK AT MOST 1048576: true; the input reads as it did. -/
def opChecksUptoRow : OpenClaim := { program := "ytnlklhlnnoihiaa", sum := "4e9ee22c5f70a9e68f3430b930e06dc7c8de7fd022a543536bde6cec7b389ea4", func := "hearsay/hearsaylaw8.OpChecks", spec := "opChecks", unfollowed := true, recurses := true, apart := false, narrowed := true }
def OpChecksUptoSaid : Prop := opChecksUptoRow.holds Try.pinned (OpenSpec.upto opChecksSpec)

/-- 'hearsaylaw8.OpDecodes', WHERE WHAT IT READS IS OF BULK AT MOST 1048576: true; the input reads as it did. -/
def opDecodesUptoRow : OpenClaim := { program := "ytnlklhlnnoihiaa", sum := "4e9ee22c5f70a9e68f3430b930e06dc7c8de7fd022a543536bde6cec7b389ea4", func := "hearsay/hearsaylaw8.OpDecodes", spec := "opDecodes", unfollowed := true, recurses := true, apart := false, narrowed := true }
def OpDecodesUptoSaid : Prop := opDecodesUptoRow.holds Try.pinned (OpenSpec.upto opDecodesSpec)

/-- 'hearsaylaw8.OpNothing', WHERE WHAT IT READS IS OF BULK AT MOST 1048576: true; the input reads as it did. -/
def opNothingUptoRow : OpenClaim := { program := "ytnlklhlnnoihiaa", sum := "4e9ee22c5f70a9e68f3430b930e06dc7c8de7fd022a543536bde6cec7b389ea4", func := "hearsay/hearsaylaw8.OpNothing", spec := "opNothing", unfollowed := true, recurses := true, apart := false, narrowed := true }
def OpNothingUptoSaid : Prop := opNothingUptoRow.holds Try.pinned (OpenSpec.upto opNothingSpec)

/-- 'hearsaylaw8.OpBack', WHERE WHAT IT READS IS OF BULK AT MOST 1048576: true; the input reads as it did. -/
def opBackUptoRow : OpenClaim := { program := "ytnlklhlnnoihiaa", sum := "4e9ee22c5f70a9e68f3430b930e06dc7c8de7fd022a543536bde6cec7b389ea4", func := "hearsay/hearsaylaw8.OpBack", spec := "opBack", unfollowed := true, recurses := true, apart := false, narrowed := true }
def OpBackUptoSaid : Prop := opBackUptoRow.holds Try.pinned (OpenSpec.upto opBackSpec)

/-- 'hearsaylaw8.OpForm', WHERE WHAT IT READS IS OF BULK AT MOST 1048576: true; the input reads as it did. -/
def opFormUptoRow : OpenClaim := { program := "ytnlklhlnnoihiaa", sum := "4e9ee22c5f70a9e68f3430b930e06dc7c8de7fd022a543536bde6cec7b389ea4", func := "hearsay/hearsaylaw8.OpForm", spec := "opForm", unfollowed := true, recurses := true, apart := false, narrowed := true }
def OpFormUptoSaid : Prop := opFormUptoRow.holds Try.pinned (OpenSpec.upto opFormSpec)

/-- 'hearsaylaw8.OpEdges', WHERE WHAT IT READS IS OF BULK AT MOST 1048576: true; the input reads as it did. -/
def opEdgesUptoRow : OpenClaim := { program := "ytnlklhlnnoihiaa", sum := "4e9ee22c5f70a9e68f3430b930e06dc7c8de7fd022a543536bde6cec7b389ea4", func := "hearsay/hearsaylaw8.OpEdges", spec := "opEdges", unfollowed := true, recurses := true, apart := false, narrowed := true }
def OpEdgesUptoSaid : Prop := opEdgesUptoRow.holds Try.pinned (OpenSpec.upto opEdgesSpec)

/-- 'hearsaylaw8.OpOwn', WHERE WHAT IT READS IS OF BULK AT MOST 1048576: true; the input reads as it did. -/
def opOwnUptoRow : OpenClaim := { program := "ytnlklhlnnoihiaa", sum := "4e9ee22c5f70a9e68f3430b930e06dc7c8de7fd022a543536bde6cec7b389ea4", func := "hearsay/hearsaylaw8.OpOwn", spec := "opOwn", unfollowed := true, recurses := true, apart := false, narrowed := true }
def OpOwnUptoSaid : Prop := opOwnUptoRow.holds Try.pinned (OpenSpec.upto opOwnSpec)

/-- 'hearsaylaw8.OpEncodes', WHERE WHAT IT READS IS OF BULK AT MOST 1048576: true; the input reads as it did. -/
def opEncodesUptoRow : OpenClaim := { program := "ytnlklhlnnoihiaa", sum := "4e9ee22c5f70a9e68f3430b930e06dc7c8de7fd022a543536bde6cec7b389ea4", func := "hearsay/hearsaylaw8.OpEncodes", spec := "opEncodes", unfollowed := true, recurses := true, apart := false, narrowed := true }
def OpEncodesUptoSaid : Prop := opEncodesUptoRow.holds Try.pinned (OpenSpec.upto opEncodesSpec)

/-- 'hearsaylaw8.OpStream', WHERE WHAT IT READS IS OF BULK AT MOST 1048576: true; the input reads as it did. -/
def opStreamUptoRow : OpenClaim := { program := "ytnlklhlnnoihiaa", sum := "4e9ee22c5f70a9e68f3430b930e06dc7c8de7fd022a543536bde6cec7b389ea4", func := "hearsay/hearsaylaw8.OpStream", spec := "opStream", unfollowed := true, recurses := true, apart := false, narrowed := true }
def OpStreamUptoSaid : Prop := opStreamUptoRow.holds Try.pinned (OpenSpec.upto opStreamSpec)

end Rows
end Go.Proofs.Ytnlklhlnnoihiaa
