/-
  No cell of these rows narrows 'for every input' (looked for: loops, veiled, ifaces, maps, wideKeys, modest, calm, conditions, laid).
  DERIVED. THE GIVEN ROWS OF THIS SEAT. 7 by the template 'for every input the law returns true; each argument reads behind the call as it read before'; 0 by the template 'total and deterministic' (their statements: YtopcogogpbcbhaaTotals.lean).
  GIVEN WITH THE SEED: the statements are not yours to turn. If you find one false, say at which input.
  Laid BY PROGRAM, IN A SANDBOX (cutbox-rows.mjs): the forced cells as the released guide's own fill.sh prints them over the translation a200203f067a74bf… (all of the seat's roots in one cut). By AI agents, Wed Nov 11 2026. No macro, syntax, notation, axiom, sorry.
-/
import Derived.Test.YtopcogogpbcbhaaChecked
import GoSem.Claim
import GoSem.ClaimJoined
import GoSem.ClaimMapViews
import Derived.JoinedTies
import Derived.KernelRfl
namespace Go.Proofs.Ytopcogogpbcbhaa
/- THE CELL 'sum', in the pinned program and in every row, IS THE sha256 OF THE DUMP (.gsa) THAT YtopcogogpbcbhaaProg.lean LOADS. Nothing in Lean hashes anything: it is a label: what it is worth is what the hold of that sum in a sandbox is worth. -/
noncomputable def Try.pinned : Pinned := { name := "ytopcogogpbcbhaa", sum := "a200203f067a74bfcec78925e36d4e5d1fad58d47ef1bc6b6ad7518df2010760", checked := Try.checked }
namespace Rows
def none {H : Type} : Left H := { results := [], args := [] }

/-- 'hearsaylaw20.NetPlays': WHATEVER THE INPUT: true; the input reads as it did. -/
def netPlaysSpec : ChangeSpec := { name := "netPlays", fn := fun _ => fun
  | [d] => { results := [.lit (.bool true)], args := [d] }
  | _ => none }
def netPlaysRow : OpenClaim := { program := "ytopcogogpbcbhaa", sum := "a200203f067a74bfcec78925e36d4e5d1fad58d47ef1bc6b6ad7518df2010760", func := "hearsay/hearsaylaw20.NetPlays", spec := "netPlays", unfollowed := true, recurses := true, apart := false }
def NetPlaysSaid : Prop := netPlaysRow.holds Try.pinned (OpenSpec.ofChange netPlaysSpec)

/-- ITS FALSE NEIGHBOUR: 'it returns false'. Refute it at one input. -/
def netPlaysWrong : ChangeSpec := { name := "netPlays", fn := fun _ => fun
  | [d] => { results := [.lit (.bool false)], args := [d] }
  | _ => none }
def NetPlaysWrongFalsely : Prop := netPlaysRow.holds Try.pinned (OpenSpec.ofChange netPlaysWrong)

/-- 'hearsaylaw20.NetTwo': WHATEVER THE INPUT: true; the input reads as it did. -/
def netTwoSpec : ChangeSpec := { name := "netTwo", fn := fun _ => fun
  | [d1, d2] => { results := [.lit (.bool true)], args := [d1, d2] }
  | _ => none }
def netTwoRow : OpenClaim := { program := "ytopcogogpbcbhaa", sum := "a200203f067a74bfcec78925e36d4e5d1fad58d47ef1bc6b6ad7518df2010760", func := "hearsay/hearsaylaw20.NetTwo", spec := "netTwo", unfollowed := true, recurses := true, apart := false }
def NetTwoSaid : Prop := netTwoRow.holds Try.pinned (OpenSpec.ofChange netTwoSpec)

/-- ITS FALSE NEIGHBOUR: 'it returns false'. Refute it at one input. -/
def netTwoWrong : ChangeSpec := { name := "netTwo", fn := fun _ => fun
  | [d1, d2] => { results := [.lit (.bool false)], args := [d1, d2] }
  | _ => none }
def NetTwoWrongFalsely : Prop := netTwoRow.holds Try.pinned (OpenSpec.ofChange netTwoWrong)

/-- 'hearsaylaw20.NetNothing': WHATEVER THE INPUT: true; the input reads as it did. -/
def netNothingSpec : ChangeSpec := { name := "netNothing", fn := fun _ => fun
  | [d] => { results := [.lit (.bool true)], args := [d] }
  | _ => none }
def netNothingRow : OpenClaim := { program := "ytopcogogpbcbhaa", sum := "a200203f067a74bfcec78925e36d4e5d1fad58d47ef1bc6b6ad7518df2010760", func := "hearsay/hearsaylaw20.NetNothing", spec := "netNothing", unfollowed := true, recurses := true, apart := false }
def NetNothingSaid : Prop := netNothingRow.holds Try.pinned (OpenSpec.ofChange netNothingSpec)

/-- ITS FALSE NEIGHBOUR: 'it returns false'. Refute it at one input. -/
def netNothingWrong : ChangeSpec := { name := "netNothing", fn := fun _ => fun
  | [d] => { results := [.lit (.bool false)], args := [d] }
  | _ => none }
def NetNothingWrongFalsely : Prop := netNothingRow.holds Try.pinned (OpenSpec.ofChange netNothingWrong)

/-- 'hearsaylaw20.NetMeans': WHATEVER THE INPUT: true; the input reads as it did. -/
def netMeansSpec : ChangeSpec := { name := "netMeans", fn := fun _ => fun
  | [d] => { results := [.lit (.bool true)], args := [d] }
  | _ => none }
def netMeansRow : OpenClaim := { program := "ytopcogogpbcbhaa", sum := "a200203f067a74bfcec78925e36d4e5d1fad58d47ef1bc6b6ad7518df2010760", func := "hearsay/hearsaylaw20.NetMeans", spec := "netMeans", unfollowed := true, recurses := true, apart := false }
def NetMeansSaid : Prop := netMeansRow.holds Try.pinned (OpenSpec.ofChange netMeansSpec)

/-- ITS FALSE NEIGHBOUR: 'it returns false'. Refute it at one input. -/
def netMeansWrong : ChangeSpec := { name := "netMeans", fn := fun _ => fun
  | [d] => { results := [.lit (.bool false)], args := [d] }
  | _ => none }
def NetMeansWrongFalsely : Prop := netMeansRow.holds Try.pinned (OpenSpec.ofChange netMeansWrong)

/-- 'hearsaylaw20.NetApart': WHATEVER THE INPUT: true; the input reads as it did. -/
def netApartSpec : ChangeSpec := { name := "netApart", fn := fun _ => fun
  | [d1, d2, d3] => { results := [.lit (.bool true)], args := [d1, d2, d3] }
  | _ => none }
def netApartRow : OpenClaim := { program := "ytopcogogpbcbhaa", sum := "a200203f067a74bfcec78925e36d4e5d1fad58d47ef1bc6b6ad7518df2010760", func := "hearsay/hearsaylaw20.NetApart", spec := "netApart", unfollowed := true, recurses := true, apart := false }
def NetApartSaid : Prop := netApartRow.holds Try.pinned (OpenSpec.ofChange netApartSpec)

/-- ITS FALSE NEIGHBOUR: 'it returns false'. Refute it at one input. -/
def netApartWrong : ChangeSpec := { name := "netApart", fn := fun _ => fun
  | [d1, d2, d3] => { results := [.lit (.bool false)], args := [d1, d2, d3] }
  | _ => none }
def NetApartWrongFalsely : Prop := netApartRow.holds Try.pinned (OpenSpec.ofChange netApartWrong)

/-- 'hearsaylaw20.NetRefused': WHATEVER THE INPUT: true; the input reads as it did. -/
def netRefusedSpec : ChangeSpec := { name := "netRefused", fn := fun _ => fun
  | [d1, d2] => { results := [.lit (.bool true)], args := [d1, d2] }
  | _ => none }
def netRefusedRow : OpenClaim := { program := "ytopcogogpbcbhaa", sum := "a200203f067a74bfcec78925e36d4e5d1fad58d47ef1bc6b6ad7518df2010760", func := "hearsay/hearsaylaw20.NetRefused", spec := "netRefused", unfollowed := true, recurses := true, apart := false }
def NetRefusedSaid : Prop := netRefusedRow.holds Try.pinned (OpenSpec.ofChange netRefusedSpec)

/-- ITS FALSE NEIGHBOUR: 'it returns false'. Refute it at one input. -/
def netRefusedWrong : ChangeSpec := { name := "netRefused", fn := fun _ => fun
  | [d1, d2] => { results := [.lit (.bool false)], args := [d1, d2] }
  | _ => none }
def NetRefusedWrongFalsely : Prop := netRefusedRow.holds Try.pinned (OpenSpec.ofChange netRefusedWrong)

/-- 'hearsaylaw20.NetOwn': WHATEVER THE INPUT: true; the input reads as it did. -/
def netOwnSpec : ChangeSpec := { name := "netOwn", fn := fun _ => fun
  | [d] => { results := [.lit (.bool true)], args := [d] }
  | _ => none }
def netOwnRow : OpenClaim := { program := "ytopcogogpbcbhaa", sum := "a200203f067a74bfcec78925e36d4e5d1fad58d47ef1bc6b6ad7518df2010760", func := "hearsay/hearsaylaw20.NetOwn", spec := "netOwn", unfollowed := true, recurses := true, apart := false }
def NetOwnSaid : Prop := netOwnRow.holds Try.pinned (OpenSpec.ofChange netOwnSpec)

/-- ITS FALSE NEIGHBOUR: 'it returns false'. Refute it at one input. -/
def netOwnWrong : ChangeSpec := { name := "netOwn", fn := fun _ => fun
  | [d] => { results := [.lit (.bool false)], args := [d] }
  | _ => none }
def NetOwnWrongFalsely : Prop := netOwnRow.holds Try.pinned (OpenSpec.ofChange netOwnWrong)

/- THE SECOND FORM. 'bulk': how many values and letters a reading holds, each counted each time it is reached (what is shared counts as often as it is met; a slice's spare places count too). A statement '..UptoSaid' is the law's where the arguments, and the package variables that the reading takes, are together of bulk at most 1048576: NARROWER than '..Said'. Prove '..Said' where nothing that the law and all that it calls make is longer than what came in: it says more and counts as full. Else prove '..UptoSaid'. A law counts once. -/
mutual
def uptoBulk {H : Type} : DataW H → Nat
  | .lit (.string bytes) => bytes.length + 1
  | .lit _ => 1
  | .nil => 1
  | .ptr d => uptoBulk d + 1
  | .slice elems spare => uptoBulkAll elems + uptoBulkAll spare + 1
  | .agg parts => uptoBulkAll parts + 1
  | .iface _ d => uptoBulk d + 1
  | .map entries => uptoBulkEntries entries + 1
  | .held _ => 1
def uptoBulkAll {H : Type} : List (DataW H) → Nat
  | [] => 0
  | d :: r => uptoBulk d + uptoBulkAll r
def uptoBulkEntries {H : Type} : List (Lit × DataW H) → Nat
  | [] => 0
  | x :: r => uptoBulkEntry x + uptoBulkEntries r
def uptoBulkEntry {H : Type} : Lit × DataW H → Nat
  | (.string bytes, d) => bytes.length + uptoBulk d + 1
  | (_, d) => uptoBulk d + 1
 end
def uptoSmall : (H : Type) → List (DataW H) → Bool := fun _ ds => decide (uptoBulkAll ds ≤ 1048576)
def OpenSpec.upto (s : _root_.Go.ChangeSpec) : _root_.Go.OpenSpec := { _root_.Go.OpenSpec.ofChange s with cond := some uptoSmall }

/-- 'hearsaylaw20.NetPlays', WHERE WHAT IT READS IS OF BULK AT MOST 1048576: true; the input reads as it did. -/
def netPlaysUptoRow : OpenClaim := { program := "ytopcogogpbcbhaa", sum := "a200203f067a74bfcec78925e36d4e5d1fad58d47ef1bc6b6ad7518df2010760", func := "hearsay/hearsaylaw20.NetPlays", spec := "netPlays", unfollowed := true, recurses := true, apart := false, narrowed := true }
def NetPlaysUptoSaid : Prop := netPlaysUptoRow.holds Try.pinned (OpenSpec.upto netPlaysSpec)

/-- 'hearsaylaw20.NetTwo', WHERE WHAT IT READS IS OF BULK AT MOST 1048576: true; the input reads as it did. -/
def netTwoUptoRow : OpenClaim := { program := "ytopcogogpbcbhaa", sum := "a200203f067a74bfcec78925e36d4e5d1fad58d47ef1bc6b6ad7518df2010760", func := "hearsay/hearsaylaw20.NetTwo", spec := "netTwo", unfollowed := true, recurses := true, apart := false, narrowed := true }
def NetTwoUptoSaid : Prop := netTwoUptoRow.holds Try.pinned (OpenSpec.upto netTwoSpec)

/-- 'hearsaylaw20.NetNothing', WHERE WHAT IT READS IS OF BULK AT MOST 1048576: true; the input reads as it did. -/
def netNothingUptoRow : OpenClaim := { program := "ytopcogogpbcbhaa", sum := "a200203f067a74bfcec78925e36d4e5d1fad58d47ef1bc6b6ad7518df2010760", func := "hearsay/hearsaylaw20.NetNothing", spec := "netNothing", unfollowed := true, recurses := true, apart := false, narrowed := true }
def NetNothingUptoSaid : Prop := netNothingUptoRow.holds Try.pinned (OpenSpec.upto netNothingSpec)

/-- 'hearsaylaw20.NetMeans', WHERE WHAT IT READS IS OF BULK AT MOST 1048576: true; the input reads as it did. -/
def netMeansUptoRow : OpenClaim := { program := "ytopcogogpbcbhaa", sum := "a200203f067a74bfcec78925e36d4e5d1fad58d47ef1bc6b6ad7518df2010760", func := "hearsay/hearsaylaw20.NetMeans", spec := "netMeans", unfollowed := true, recurses := true, apart := false, narrowed := true }
def NetMeansUptoSaid : Prop := netMeansUptoRow.holds Try.pinned (OpenSpec.upto netMeansSpec)

/-- 'hearsaylaw20.NetApart', WHERE WHAT IT READS IS OF BULK AT MOST 1048576: true; the input reads as it did. -/
def netApartUptoRow : OpenClaim := { program := "ytopcogogpbcbhaa", sum := "a200203f067a74bfcec78925e36d4e5d1fad58d47ef1bc6b6ad7518df2010760", func := "hearsay/hearsaylaw20.NetApart", spec := "netApart", unfollowed := true, recurses := true, apart := false, narrowed := true }
def NetApartUptoSaid : Prop := netApartUptoRow.holds Try.pinned (OpenSpec.upto netApartSpec)

/-- 'hearsaylaw20.NetRefused', WHERE WHAT IT READS IS OF BULK AT MOST 1048576: true; the input reads as it did. -/
def netRefusedUptoRow : OpenClaim := { program := "ytopcogogpbcbhaa", sum := "a200203f067a74bfcec78925e36d4e5d1fad58d47ef1bc6b6ad7518df2010760", func := "hearsay/hearsaylaw20.NetRefused", spec := "netRefused", unfollowed := true, recurses := true, apart := false, narrowed := true }
def NetRefusedUptoSaid : Prop := netRefusedUptoRow.holds Try.pinned (OpenSpec.upto netRefusedSpec)

/-- 'hearsaylaw20.NetOwn', WHERE WHAT IT READS IS OF BULK AT MOST 1048576: true; the input reads as it did. -/
def netOwnUptoRow : OpenClaim := { program := "ytopcogogpbcbhaa", sum := "a200203f067a74bfcec78925e36d4e5d1fad58d47ef1bc6b6ad7518df2010760", func := "hearsay/hearsaylaw20.NetOwn", spec := "netOwn", unfollowed := true, recurses := true, apart := false, narrowed := true }
def NetOwnUptoSaid : Prop := netOwnUptoRow.holds Try.pinned (OpenSpec.upto netOwnSpec)

end Rows
end Go.Proofs.Ytopcogogpbcbhaa
