/-
  No cell of these rows narrows 'for every input' (looked for: loops, veiled, ifaces, maps, wideKeys, modest, calm, conditions, laid).
  DERIVED. THE GIVEN ROWS OF THIS SEAT. 6 by the template 'for every input the law returns true; each argument reads behind the call as it read before'; 0 by the template 'total and deterministic' (their statements: YthlejmpeigfdgaaTotals.lean).
  GIVEN WITH THE SEED: the statements are not yours to turn. If you find one false, say at which input.
  Laid BY PROGRAM, IN A SANDBOX (cutbox-rows.mjs): the forced cells as the released guide's own fill.sh prints them over the translation be5c5430cdf62434… (all of the seat's roots in one cut). By AI agents, Wed Nov 11 2026. No macro, syntax, notation, axiom, sorry.
-/
import Derived.Test.YthlejmpeigfdgaaChecked
import GoSem.Claim
import GoSem.ClaimJoined
import GoSem.ClaimMapViews
import Derived.JoinedTies
import Derived.KernelRfl
namespace Go.Proofs.Ythlejmpeigfdgaa
/- THE CELL 'sum', in the pinned program and in every row, IS THE sha256 OF THE DUMP (.gsa) THAT YthlejmpeigfdgaaProg.lean LOADS. Nothing in Lean hashes anything: it is a label: what it is worth is what the hold of that sum in a sandbox is worth. -/
noncomputable def Try.pinned : Pinned := { name := "ythlejmpeigfdgaa", sum := "be5c5430cdf624345798d60ed64e515cbf59c0ad94ca105442da4b5ffb11c53f", checked := Try.checked }
namespace Rows
def none {H : Type} : Left H := { results := [], args := [] }

/-- 'hearsaylaw14.FrontPlays': WHATEVER THE INPUT: true; the input reads as it did. -/
def frontPlaysSpec : ChangeSpec := { name := "frontPlays", fn := fun _ => fun
  | [d] => { results := [.lit (.bool true)], args := [d] }
  | _ => none }
def frontPlaysRow : OpenClaim := { program := "ythlejmpeigfdgaa", sum := "be5c5430cdf624345798d60ed64e515cbf59c0ad94ca105442da4b5ffb11c53f", func := "hearsay/hearsaylaw14.FrontPlays", spec := "frontPlays", unfollowed := true, recurses := true, apart := false }
def FrontPlaysSaid : Prop := frontPlaysRow.holds Try.pinned (OpenSpec.ofChange frontPlaysSpec)

/-- ITS FALSE NEIGHBOUR: 'it returns false'. Refute it at one input. -/
def frontPlaysWrong : ChangeSpec := { name := "frontPlays", fn := fun _ => fun
  | [d] => { results := [.lit (.bool false)], args := [d] }
  | _ => none }
def FrontPlaysWrongFalsely : Prop := frontPlaysRow.holds Try.pinned (OpenSpec.ofChange frontPlaysWrong)

/-- 'hearsaylaw14.FrontTwo': WHATEVER THE INPUT: true; the input reads as it did. -/
def frontTwoSpec : ChangeSpec := { name := "frontTwo", fn := fun _ => fun
  | [d1, d2] => { results := [.lit (.bool true)], args := [d1, d2] }
  | _ => none }
def frontTwoRow : OpenClaim := { program := "ythlejmpeigfdgaa", sum := "be5c5430cdf624345798d60ed64e515cbf59c0ad94ca105442da4b5ffb11c53f", func := "hearsay/hearsaylaw14.FrontTwo", spec := "frontTwo", unfollowed := true, recurses := true, apart := false }
def FrontTwoSaid : Prop := frontTwoRow.holds Try.pinned (OpenSpec.ofChange frontTwoSpec)

/-- ITS FALSE NEIGHBOUR: 'it returns false'. Refute it at one input. -/
def frontTwoWrong : ChangeSpec := { name := "frontTwo", fn := fun _ => fun
  | [d1, d2] => { results := [.lit (.bool false)], args := [d1, d2] }
  | _ => none }
def FrontTwoWrongFalsely : Prop := frontTwoRow.holds Try.pinned (OpenSpec.ofChange frontTwoWrong)

/-- 'hearsaylaw14.FrontNothing': WHATEVER THE INPUT: true; the input reads as it did. -/
def frontNothingSpec : ChangeSpec := { name := "frontNothing", fn := fun _ => fun
  | [d] => { results := [.lit (.bool true)], args := [d] }
  | _ => none }
def frontNothingRow : OpenClaim := { program := "ythlejmpeigfdgaa", sum := "be5c5430cdf624345798d60ed64e515cbf59c0ad94ca105442da4b5ffb11c53f", func := "hearsay/hearsaylaw14.FrontNothing", spec := "frontNothing", unfollowed := true, recurses := true, apart := false }
def FrontNothingSaid : Prop := frontNothingRow.holds Try.pinned (OpenSpec.ofChange frontNothingSpec)

/-- ITS FALSE NEIGHBOUR: 'it returns false'. Refute it at one input. -/
def frontNothingWrong : ChangeSpec := { name := "frontNothing", fn := fun _ => fun
  | [d] => { results := [.lit (.bool false)], args := [d] }
  | _ => none }
def FrontNothingWrongFalsely : Prop := frontNothingRow.holds Try.pinned (OpenSpec.ofChange frontNothingWrong)

/-- 'hearsaylaw14.FrontMeans': WHATEVER THE INPUT: true; the input reads as it did. -/
def frontMeansSpec : ChangeSpec := { name := "frontMeans", fn := fun _ => fun
  | [d1, d2, d3, d4, d5] => { results := [.lit (.bool true)], args := [d1, d2, d3, d4, d5] }
  | _ => none }
def frontMeansRow : OpenClaim := { program := "ythlejmpeigfdgaa", sum := "be5c5430cdf624345798d60ed64e515cbf59c0ad94ca105442da4b5ffb11c53f", func := "hearsay/hearsaylaw14.FrontMeans", spec := "frontMeans", unfollowed := true, recurses := true, apart := false }
def FrontMeansSaid : Prop := frontMeansRow.holds Try.pinned (OpenSpec.ofChange frontMeansSpec)

/-- ITS FALSE NEIGHBOUR: 'it returns false'. Refute it at one input. -/
def frontMeansWrong : ChangeSpec := { name := "frontMeans", fn := fun _ => fun
  | [d1, d2, d3, d4, d5] => { results := [.lit (.bool false)], args := [d1, d2, d3, d4, d5] }
  | _ => none }
def FrontMeansWrongFalsely : Prop := frontMeansRow.holds Try.pinned (OpenSpec.ofChange frontMeansWrong)

/-- 'hearsaylaw14.FrontOrder': WHATEVER THE INPUT: true; the input reads as it did. -/
def frontOrderSpec : ChangeSpec := { name := "frontOrder", fn := fun _ => fun
  | [d1, d2, d3] => { results := [.lit (.bool true)], args := [d1, d2, d3] }
  | _ => none }
def frontOrderRow : OpenClaim := { program := "ythlejmpeigfdgaa", sum := "be5c5430cdf624345798d60ed64e515cbf59c0ad94ca105442da4b5ffb11c53f", func := "hearsay/hearsaylaw14.FrontOrder", spec := "frontOrder", unfollowed := true, recurses := true, apart := false }
def FrontOrderSaid : Prop := frontOrderRow.holds Try.pinned (OpenSpec.ofChange frontOrderSpec)

/-- ITS FALSE NEIGHBOUR: 'it returns false'. Refute it at one input. -/
def frontOrderWrong : ChangeSpec := { name := "frontOrder", fn := fun _ => fun
  | [d1, d2, d3] => { results := [.lit (.bool false)], args := [d1, d2, d3] }
  | _ => none }
def FrontOrderWrongFalsely : Prop := frontOrderRow.holds Try.pinned (OpenSpec.ofChange frontOrderWrong)

/-- 'hearsaylaw14.FrontOwn': WHATEVER THE INPUT: true; the input reads as it did. -/
def frontOwnSpec : ChangeSpec := { name := "frontOwn", fn := fun _ => fun
  | [d1, d2, d3] => { results := [.lit (.bool true)], args := [d1, d2, d3] }
  | _ => none }
def frontOwnRow : OpenClaim := { program := "ythlejmpeigfdgaa", sum := "be5c5430cdf624345798d60ed64e515cbf59c0ad94ca105442da4b5ffb11c53f", func := "hearsay/hearsaylaw14.FrontOwn", spec := "frontOwn", unfollowed := true, recurses := true, apart := false }
def FrontOwnSaid : Prop := frontOwnRow.holds Try.pinned (OpenSpec.ofChange frontOwnSpec)

/-- ITS FALSE NEIGHBOUR: 'it returns false'. Refute it at one input. -/
def frontOwnWrong : ChangeSpec := { name := "frontOwn", fn := fun _ => fun
  | [d1, d2, d3] => { results := [.lit (.bool false)], args := [d1, d2, d3] }
  | _ => none }
def FrontOwnWrongFalsely : Prop := frontOwnRow.holds Try.pinned (OpenSpec.ofChange frontOwnWrong)

/- THE SECOND FORM. 'bulk': how many values and letters a reading holds, each counted each time it is reached (what is shared counts as often as it is met; a slice's spare places count too). A statement '..UptoSaid' is the law's where the arguments, and the package variables that the reading takes, are together of bulk at most 1048576: NARROWER than '..Said'. Prove '..Said' where nothing that the law and all that it calls make is longer than what came in: it says more and counts as full. Else prove '..UptoSaid'. A law counts once. -/
mutual
def uptoBulk {H : Type} : DataW H → Nat
  | .lit (.string bytes) => bytes.length + 1
  | .lit _ => 1
  | .nil => 1
  | .ptr d => uptoBulk d + 1
  | .slice elems spare => uptoBulkAll elems + uptoBulkAll spare + 1
  | .agg parts => uptoBulkAll parts + 1
  | .iface _ d => uptoBulk d + 1
  | .map entries => uptoBulkEntries entries + 1
  | .held _ => 1
def uptoBulkAll {H : Type} : List (DataW H) → Nat
  | [] => 0
  | d :: r => uptoBulk d + uptoBulkAll r
def uptoBulkEntries {H : Type} : List (Lit × DataW H) → Nat
  | [] => 0
  | x :: r => uptoBulkEntry x + uptoBulkEntries r
def uptoBulkEntry {H : Type} : Lit × DataW H → Nat
  | (.string bytes, d) => bytes.length + uptoBulk d + 1
  | (_, d) => uptoBulk d + 1
 end
def uptoSmall : (H : Type) → List (DataW H) → Bool := fun _ ds => decide (uptoBulkAll ds ≤ 1048576)
def OpenSpec.upto (s : _root_.Go.ChangeSpec) : _root_.Go.OpenSpec := { _root_.Go.OpenSpec.ofChange s with cond := some uptoSmall }

/-- 'hearsaylaw14.FrontPlays', WHERE WHAT IT READS IS OF BULK AT MOST 1048576: true; the input reads as it did. -/
def frontPlaysUptoRow : OpenClaim := { program := "ythlejmpeigfdgaa", sum := "be5c5430cdf624345798d60ed64e515cbf59c0ad94ca105442da4b5ffb11c53f", func := "hearsay/hearsaylaw14.FrontPlays", spec := "frontPlays", unfollowed := true, recurses := true, apart := false, narrowed := true }
def FrontPlaysUptoSaid : Prop := frontPlaysUptoRow.holds Try.pinned (OpenSpec.upto frontPlaysSpec)

/-- 'hearsaylaw14.FrontTwo', WHERE WHAT IT READS IS OF BULK AT MOST 1048576: true; the input reads as it did. -/
def frontTwoUptoRow : OpenClaim := { program := "ythlejmpeigfdgaa", sum := "be5c5430cdf624345798d60ed64e515cbf59c0ad94ca105442da4b5ffb11c53f", func := "hearsay/hearsaylaw14.FrontTwo", spec := "frontTwo", unfollowed := true, recurses := true, apart := false, narrowed := true }
def FrontTwoUptoSaid : Prop := frontTwoUptoRow.holds Try.pinned (OpenSpec.upto frontTwoSpec)

/-- 'hearsaylaw14.FrontNothing', WHERE WHAT IT READS IS OF BULK AT MOST 1048576: true; the input reads as it did. -/
def frontNothingUptoRow : OpenClaim := { program := "ythlejmpeigfdgaa", sum := "be5c5430cdf624345798d60ed64e515cbf59c0ad94ca105442da4b5ffb11c53f", func := "hearsay/hearsaylaw14.FrontNothing", spec := "frontNothing", unfollowed := true, recurses := true, apart := false, narrowed := true }
def FrontNothingUptoSaid : Prop := frontNothingUptoRow.holds Try.pinned (OpenSpec.upto frontNothingSpec)

/-- 'hearsaylaw14.FrontMeans', WHERE WHAT IT READS IS OF BULK AT MOST 1048576: true; the input reads as it did. -/
def frontMeansUptoRow : OpenClaim := { program := "ythlejmpeigfdgaa", sum := "be5c5430cdf624345798d60ed64e515cbf59c0ad94ca105442da4b5ffb11c53f", func := "hearsay/hearsaylaw14.FrontMeans", spec := "frontMeans", unfollowed := true, recurses := true, apart := false, narrowed := true }
def FrontMeansUptoSaid : Prop := frontMeansUptoRow.holds Try.pinned (OpenSpec.upto frontMeansSpec)

/-- 'hearsaylaw14.FrontOrder', WHERE WHAT IT READS IS OF BULK AT MOST 1048576: true; the input reads as it did. -/
def frontOrderUptoRow : OpenClaim := { program := "ythlejmpeigfdgaa", sum := "be5c5430cdf624345798d60ed64e515cbf59c0ad94ca105442da4b5ffb11c53f", func := "hearsay/hearsaylaw14.FrontOrder", spec := "frontOrder", unfollowed := true, recurses := true, apart := false, narrowed := true }
def FrontOrderUptoSaid : Prop := frontOrderUptoRow.holds Try.pinned (OpenSpec.upto frontOrderSpec)

/-- 'hearsaylaw14.FrontOwn', WHERE WHAT IT READS IS OF BULK AT MOST 1048576: true; the input reads as it did. -/
def frontOwnUptoRow : OpenClaim := { program := "ythlejmpeigfdgaa", sum := "be5c5430cdf624345798d60ed64e515cbf59c0ad94ca105442da4b5ffb11c53f", func := "hearsay/hearsaylaw14.FrontOwn", spec := "frontOwn", unfollowed := true, recurses := true, apart := false, narrowed := true }
def FrontOwnUptoSaid : Prop := frontOwnUptoRow.holds Try.pinned (OpenSpec.upto frontOwnSpec)

end Rows
end Go.Proofs.Ythlejmpeigfdgaa
