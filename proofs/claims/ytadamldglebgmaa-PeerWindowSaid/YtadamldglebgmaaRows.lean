/-
  No cell of these rows narrows 'for every input' (looked for: loops, veiled, ifaces, maps, wideKeys, modest, calm, conditions, laid).
  DERIVED. THE GIVEN ROWS OF THIS SEAT. 6 by the template 'for every input the law returns true; each argument reads behind the call as it read before'; 0 by the template 'total and deterministic' (their statements: YtadamldglebgmaaTotals.lean).
  GIVEN WITH THE SEED: the statements are not yours to turn. If you find one false, say at which input.
  Laid BY PROGRAM, IN A SANDBOX (cutbox-rows.mjs): the forced cells as the released guide's own fill.sh prints them over the translation 3b997e9cea87b029… (all of the seat's roots in one cut). By AI agents, Wed Nov 11 2026. No macro, syntax, notation, axiom, sorry.
-/
import Derived.Test.YtadamldglebgmaaChecked
import GoSem.Claim
import GoSem.ClaimJoined
import GoSem.ClaimMapViews
import Derived.JoinedTies
import Derived.KernelRfl
namespace Go.Proofs.Ytadamldglebgmaa
/- THE CELL 'sum', in the pinned program and in every row, IS THE sha256 OF THE DUMP (.gsa) THAT YtadamldglebgmaaProg.lean LOADS. Nothing in Lean hashes anything: it is a label: what it is worth is what the hold of that sum in a sandbox is worth. -/
noncomputable def Try.pinned : Pinned := { name := "ytadamldglebgmaa", sum := "3b997e9cea87b02943dfce9061f594aa03e49960b67769470778184435dfc716", checked := Try.checked }
namespace Rows
def none {H : Type} : Left H := { results := [], args := [] }

/-- 'hearsaylaw17.PeerNews': WHATEVER THE INPUT: true; the input reads as it did. -/
def peerNewsSpec : ChangeSpec := { name := "peerNews", fn := fun _ => fun
  | [d1, d2] => { results := [.lit (.bool true)], args := [d1, d2] }
  | _ => none }
def peerNewsRow : OpenClaim := { program := "ytadamldglebgmaa", sum := "3b997e9cea87b02943dfce9061f594aa03e49960b67769470778184435dfc716", func := "hearsay/hearsaylaw17.PeerNews", spec := "peerNews", unfollowed := true, recurses := true, apart := false }
def PeerNewsSaid : Prop := peerNewsRow.holds Try.pinned (OpenSpec.ofChange peerNewsSpec)

/-- ITS FALSE NEIGHBOUR: 'it returns false'. Refute it at one input. -/
def peerNewsWrong : ChangeSpec := { name := "peerNews", fn := fun _ => fun
  | [d1, d2] => { results := [.lit (.bool false)], args := [d1, d2] }
  | _ => none }
def PeerNewsWrongFalsely : Prop := peerNewsRow.holds Try.pinned (OpenSpec.ofChange peerNewsWrong)

/-- 'hearsaylaw17.PeerPlays': WHATEVER THE INPUT: true; the input reads as it did. -/
def peerPlaysSpec : ChangeSpec := { name := "peerPlays", fn := fun _ => fun
  | [d1, d2, d3] => { results := [.lit (.bool true)], args := [d1, d2, d3] }
  | _ => none }
def peerPlaysRow : OpenClaim := { program := "ytadamldglebgmaa", sum := "3b997e9cea87b02943dfce9061f594aa03e49960b67769470778184435dfc716", func := "hearsay/hearsaylaw17.PeerPlays", spec := "peerPlays", unfollowed := true, recurses := true, apart := false }
def PeerPlaysSaid : Prop := peerPlaysRow.holds Try.pinned (OpenSpec.ofChange peerPlaysSpec)

/-- ITS FALSE NEIGHBOUR: 'it returns false'. Refute it at one input. -/
def peerPlaysWrong : ChangeSpec := { name := "peerPlays", fn := fun _ => fun
  | [d1, d2, d3] => { results := [.lit (.bool false)], args := [d1, d2, d3] }
  | _ => none }
def PeerPlaysWrongFalsely : Prop := peerPlaysRow.holds Try.pinned (OpenSpec.ofChange peerPlaysWrong)

/-- 'hearsaylaw17.PeerTwo': WHATEVER THE INPUT: true; the input reads as it did. -/
def peerTwoSpec : ChangeSpec := { name := "peerTwo", fn := fun _ => fun
  | [d1, d2, d3, d4] => { results := [.lit (.bool true)], args := [d1, d2, d3, d4] }
  | _ => none }
def peerTwoRow : OpenClaim := { program := "ytadamldglebgmaa", sum := "3b997e9cea87b02943dfce9061f594aa03e49960b67769470778184435dfc716", func := "hearsay/hearsaylaw17.PeerTwo", spec := "peerTwo", unfollowed := true, recurses := true, apart := false }
def PeerTwoSaid : Prop := peerTwoRow.holds Try.pinned (OpenSpec.ofChange peerTwoSpec)

/-- ITS FALSE NEIGHBOUR: 'it returns false'. Refute it at one input. -/
def peerTwoWrong : ChangeSpec := { name := "peerTwo", fn := fun _ => fun
  | [d1, d2, d3, d4] => { results := [.lit (.bool false)], args := [d1, d2, d3, d4] }
  | _ => none }
def PeerTwoWrongFalsely : Prop := peerTwoRow.holds Try.pinned (OpenSpec.ofChange peerTwoWrong)

/-- 'hearsaylaw17.PeerNothing': WHATEVER THE INPUT: true; the input reads as it did. -/
def peerNothingSpec : ChangeSpec := { name := "peerNothing", fn := fun _ => fun
  | [d] => { results := [.lit (.bool true)], args := [d] }
  | _ => none }
def peerNothingRow : OpenClaim := { program := "ytadamldglebgmaa", sum := "3b997e9cea87b02943dfce9061f594aa03e49960b67769470778184435dfc716", func := "hearsay/hearsaylaw17.PeerNothing", spec := "peerNothing", unfollowed := true, recurses := true, apart := false }
def PeerNothingSaid : Prop := peerNothingRow.holds Try.pinned (OpenSpec.ofChange peerNothingSpec)

/-- ITS FALSE NEIGHBOUR: 'it returns false'. Refute it at one input. -/
def peerNothingWrong : ChangeSpec := { name := "peerNothing", fn := fun _ => fun
  | [d] => { results := [.lit (.bool false)], args := [d] }
  | _ => none }
def PeerNothingWrongFalsely : Prop := peerNothingRow.holds Try.pinned (OpenSpec.ofChange peerNothingWrong)

/-- 'hearsaylaw17.PeerWindow': WHATEVER THE INPUT: true; the input reads as it did. -/
def peerWindowSpec : ChangeSpec := { name := "peerWindow", fn := fun _ => fun
  | [d1, d2, d3] => { results := [.lit (.bool true)], args := [d1, d2, d3] }
  | _ => none }
def peerWindowRow : OpenClaim := { program := "ytadamldglebgmaa", sum := "3b997e9cea87b02943dfce9061f594aa03e49960b67769470778184435dfc716", func := "hearsay/hearsaylaw17.PeerWindow", spec := "peerWindow", unfollowed := true, recurses := true, apart := false }
def PeerWindowSaid : Prop := peerWindowRow.holds Try.pinned (OpenSpec.ofChange peerWindowSpec)

/-- ITS FALSE NEIGHBOUR: 'it returns false'. Refute it at one input. -/
def peerWindowWrong : ChangeSpec := { name := "peerWindow", fn := fun _ => fun
  | [d1, d2, d3] => { results := [.lit (.bool false)], args := [d1, d2, d3] }
  | _ => none }
def PeerWindowWrongFalsely : Prop := peerWindowRow.holds Try.pinned (OpenSpec.ofChange peerWindowWrong)

/-- 'hearsaylaw17.PeerOwn': WHATEVER THE INPUT: true; the input reads as it did. -/
def peerOwnSpec : ChangeSpec := { name := "peerOwn", fn := fun _ => fun
  | [d1, d2, d3] => { results := [.lit (.bool true)], args := [d1, d2, d3] }
  | _ => none }
def peerOwnRow : OpenClaim := { program := "ytadamldglebgmaa", sum := "3b997e9cea87b02943dfce9061f594aa03e49960b67769470778184435dfc716", func := "hearsay/hearsaylaw17.PeerOwn", spec := "peerOwn", unfollowed := true, recurses := true, apart := false }
def PeerOwnSaid : Prop := peerOwnRow.holds Try.pinned (OpenSpec.ofChange peerOwnSpec)

/-- ITS FALSE NEIGHBOUR: 'it returns false'. Refute it at one input. -/
def peerOwnWrong : ChangeSpec := { name := "peerOwn", fn := fun _ => fun
  | [d1, d2, d3] => { results := [.lit (.bool false)], args := [d1, d2, d3] }
  | _ => none }
def PeerOwnWrongFalsely : Prop := peerOwnRow.holds Try.pinned (OpenSpec.ofChange peerOwnWrong)

/- THE SECOND FORM. 'bulk': how many values and letters a reading holds, each counted each time it is reached (what is shared counts as often as it is met; a slice's spare places count too). A statement '..UptoSaid' is the law's where the arguments, and the package variables that the reading takes, are together of bulk at most 1048576: NARROWER than '..Said'. Prove '..Said' where nothing that the law and all that it calls make is longer than what came in: it says more and counts as full. Else prove '..UptoSaid'. A law counts once. -/
mutual
def uptoBulk {H : Type} : DataW H → Nat
  | .lit (.string bytes) => bytes.length + 1
  | .lit _ => 1
  | .nil => 1
  | .ptr d => uptoBulk d + 1
  | .slice elems spare => uptoBulkAll elems + uptoBulkAll spare + 1
  | .agg parts => uptoBulkAll parts + 1
  | .iface _ d => uptoBulk d + 1
  | .map entries => uptoBulkEntries entries + 1
  | .held _ => 1
def uptoBulkAll {H : Type} : List (DataW H) → Nat
  | [] => 0
  | d :: r => uptoBulk d + uptoBulkAll r
def uptoBulkEntries {H : Type} : List (Lit × DataW H) → Nat
  | [] => 0
  | x :: r => uptoBulkEntry x + uptoBulkEntries r
def uptoBulkEntry {H : Type} : Lit × DataW H → Nat
  | (.string bytes, d) => bytes.length + uptoBulk d + 1
  | (_, d) => uptoBulk d + 1
 end
def uptoSmall : (H : Type) → List (DataW H) → Bool := fun _ ds => decide (uptoBulkAll ds ≤ 1048576)
def OpenSpec.upto (s : _root_.Go.ChangeSpec) : _root_.Go.OpenSpec := { _root_.Go.OpenSpec.ofChange s with cond := some uptoSmall }

/-- 'hearsaylaw17.PeerNews', WHERE WHAT IT READS IS OF BULK AT MOST 1048576: true; the input reads as it did. -/
def peerNewsUptoRow : OpenClaim := { program := "ytadamldglebgmaa", sum := "3b997e9cea87b02943dfce9061f594aa03e49960b67769470778184435dfc716", func := "hearsay/hearsaylaw17.PeerNews", spec := "peerNews", unfollowed := true, recurses := true, apart := false, narrowed := true }
def PeerNewsUptoSaid : Prop := peerNewsUptoRow.holds Try.pinned (OpenSpec.upto peerNewsSpec)

/-- 'hearsaylaw17.PeerPlays', WHERE WHAT IT READS IS OF BULK AT MOST 1048576: true; the input reads as it did. -/
def peerPlaysUptoRow : OpenClaim := { program := "ytadamldglebgmaa", sum := "3b997e9cea87b02943dfce9061f594aa03e49960b67769470778184435dfc716", func := "hearsay/hearsaylaw17.PeerPlays", spec := "peerPlays", unfollowed := true, recurses := true, apart := false, narrowed := true }
def PeerPlaysUptoSaid : Prop := peerPlaysUptoRow.holds Try.pinned (OpenSpec.upto peerPlaysSpec)

/-- 'hearsaylaw17.PeerTwo', WHERE WHAT IT READS IS OF BULK AT MOST 1048576: true; the input reads as it did. -/
def peerTwoUptoRow : OpenClaim := { program := "ytadamldglebgmaa", sum := "3b997e9cea87b02943dfce9061f594aa03e49960b67769470778184435dfc716", func := "hearsay/hearsaylaw17.PeerTwo", spec := "peerTwo", unfollowed := true, recurses := true, apart := false, narrowed := true }
def PeerTwoUptoSaid : Prop := peerTwoUptoRow.holds Try.pinned (OpenSpec.upto peerTwoSpec)

/-- 'hearsaylaw17.PeerNothing', WHERE WHAT IT READS IS OF BULK AT MOST 1048576: true; the input reads as it did. -/
def peerNothingUptoRow : OpenClaim := { program := "ytadamldglebgmaa", sum := "3b997e9cea87b02943dfce9061f594aa03e49960b67769470778184435dfc716", func := "hearsay/hearsaylaw17.PeerNothing", spec := "peerNothing", unfollowed := true, recurses := true, apart := false, narrowed := true }
def PeerNothingUptoSaid : Prop := peerNothingUptoRow.holds Try.pinned (OpenSpec.upto peerNothingSpec)

/-- 'hearsaylaw17.PeerWindow', WHERE WHAT IT READS IS OF BULK AT MOST 1048576: true; the input reads as it did. -/
def peerWindowUptoRow : OpenClaim := { program := "ytadamldglebgmaa", sum := "3b997e9cea87b02943dfce9061f594aa03e49960b67769470778184435dfc716", func := "hearsay/hearsaylaw17.PeerWindow", spec := "peerWindow", unfollowed := true, recurses := true, apart := false, narrowed := true }
def PeerWindowUptoSaid : Prop := peerWindowUptoRow.holds Try.pinned (OpenSpec.upto peerWindowSpec)

/-- 'hearsaylaw17.PeerOwn', WHERE WHAT IT READS IS OF BULK AT MOST 1048576: true; the input reads as it did. -/
def peerOwnUptoRow : OpenClaim := { program := "ytadamldglebgmaa", sum := "3b997e9cea87b02943dfce9061f594aa03e49960b67769470778184435dfc716", func := "hearsay/hearsaylaw17.PeerOwn", spec := "peerOwn", unfollowed := true, recurses := true, apart := false, narrowed := true }
def PeerOwnUptoSaid : Prop := peerOwnUptoRow.holds Try.pinned (OpenSpec.upto peerOwnSpec)

end Rows
end Go.Proofs.Ytadamldglebgmaa
