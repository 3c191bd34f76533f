/-
  No cell of these rows narrows 'for every input' (looked for: loops, veiled, ifaces, maps, wideKeys, modest, calm, conditions, laid).
  DERIVED. THE GIVEN ROWS OF THIS SEAT. 3 by the template 'for every input the law returns true; each argument reads behind the call as it read before'; 0 by the template 'total and deterministic' (their statements: YtnajbkccaclkcaaGreatTotals.lean).
  GIVEN WITH THE SEED: the statements are not yours to turn. If you find one false, say at which input.
  Laid BY PROGRAM, IN A SANDBOX (cutbox-rows.mjs): the forced cells as the released guide's own fill.sh prints them over the translation e64159906a1fd80a… (all of the seat's roots in one cut). By AI agents, Wed Nov 11 2026. No macro, syntax, notation, axiom, sorry.
-/
import Derived.Test.YtnajbkccaclkcaaGreatChecked
import GoSem.Claim
import GoSem.ClaimJoined
import GoSem.ClaimMapViews
import Derived.JoinedTies
import Derived.KernelRfl
namespace Go.Proofs.YtnajbkccaclkcaaGreat
/- THE CELL 'sum', in the pinned program and in every row, IS THE sha256 OF THE DUMP (.gsa) THAT YtnajbkccaclkcaaGreatProg.lean LOADS. Nothing in Lean hashes anything: it is a label: what it is worth is what the hold of that sum in a sandbox is worth. -/
noncomputable def Tryz.pinned : Pinned := { name := "ytnajbkccaclkcaagreat", sum := "e64159906a1fd80abcf6e7eb475b9dff7cefd03ccf31616c5a3fbeba2e138e3f", checked := Tryz.checked }
namespace Rows
def none {H : Type} : Left H := { results := [], args := [] }

/-- 'hearsaylaw9.ImageChecks': WHATEVER THE INPUT: true; the input reads as it did. -/
def imageChecksSpec : ChangeSpec := { name := "imageChecks", fn := fun _ => fun
  | [d] => { results := [.lit (.bool true)], args := [d] }
  | _ => none }
def imageChecksRow : OpenClaim := { program := "ytnajbkccaclkcaagreat", sum := "e64159906a1fd80abcf6e7eb475b9dff7cefd03ccf31616c5a3fbeba2e138e3f", func := "hearsay/hearsaylaw9.ImageChecks", spec := "imageChecks", unfollowed := true, recurses := true, plainKeys := false, apart := false }
def ImageChecksSaid : Prop := imageChecksRow.holds Tryz.pinned (OpenSpec.ofChange imageChecksSpec)

/-- ITS FALSE NEIGHBOUR: 'it returns false'. Refute it at one input. -/
def imageChecksWrong : ChangeSpec := { name := "imageChecks", fn := fun _ => fun
  | [d] => { results := [.lit (.bool false)], args := [d] }
  | _ => none }
def ImageChecksWrongFalsely : Prop := imageChecksRow.holds Tryz.pinned (OpenSpec.ofChange imageChecksWrong)

/-- 'hearsaylaw9.ImageOwn': WHATEVER THE INPUT: true; the input reads as it did. -/
def imageOwnSpec : ChangeSpec := { name := "imageOwn", fn := fun _ => fun
  | [d] => { results := [.lit (.bool true)], args := [d] }
  | _ => none }
def imageOwnRow : OpenClaim := { program := "ytnajbkccaclkcaagreat", sum := "e64159906a1fd80abcf6e7eb475b9dff7cefd03ccf31616c5a3fbeba2e138e3f", func := "hearsay/hearsaylaw9.ImageOwn", spec := "imageOwn", unfollowed := true, recurses := true, plainKeys := false, apart := false }
def ImageOwnSaid : Prop := imageOwnRow.holds Tryz.pinned (OpenSpec.ofChange imageOwnSpec)

/-- ITS FALSE NEIGHBOUR: 'it returns false'. Refute it at one input. -/
def imageOwnWrong : ChangeSpec := { name := "imageOwn", fn := fun _ => fun
  | [d] => { results := [.lit (.bool false)], args := [d] }
  | _ => none }
def ImageOwnWrongFalsely : Prop := imageOwnRow.holds Tryz.pinned (OpenSpec.ofChange imageOwnWrong)

/-- 'hearsaylaw9.ImagePuts': WHATEVER THE INPUT: true; the input reads as it did. -/
def imagePutsSpec : ChangeSpec := { name := "imagePuts", fn := fun _ => fun
  | [d1, d2, d3] => { results := [.lit (.bool true)], args := [d1, d2, d3] }
  | _ => none }
def imagePutsRow : OpenClaim := { program := "ytnajbkccaclkcaagreat", sum := "e64159906a1fd80abcf6e7eb475b9dff7cefd03ccf31616c5a3fbeba2e138e3f", func := "hearsay/hearsaylaw9.ImagePuts", spec := "imagePuts", unfollowed := true, recurses := true, plainKeys := false, apart := false }
def ImagePutsSaid : Prop := imagePutsRow.holds Tryz.pinned (OpenSpec.ofChange imagePutsSpec)

/-- ITS FALSE NEIGHBOUR: 'it returns false'. Refute it at one input. -/
def imagePutsWrong : ChangeSpec := { name := "imagePuts", fn := fun _ => fun
  | [d1, d2, d3] => { results := [.lit (.bool false)], args := [d1, d2, d3] }
  | _ => none }
def ImagePutsWrongFalsely : Prop := imagePutsRow.holds Tryz.pinned (OpenSpec.ofChange imagePutsWrong)

/- THE SECOND FORM. 'bulk': how many values and letters a reading holds, each counted each time it is reached (what is shared counts as often as it is met; a slice's spare places count too). A statement '..UptoSaid' is the law's where the arguments, and the package variables that the reading takes, are together of bulk at most 1048576: NARROWER than '..Said'. Prove '..Said' where nothing that the law and all that it calls make is longer than what came in: it says more and counts as full. Else prove '..UptoSaid'. A law counts once. -/
mutual
def uptoBulk {H : Type} : DataW H → Nat
  | .lit (.string bytes) => bytes.length + 1
  | .lit _ => 1
  | .nil => 1
  | .ptr d => uptoBulk d + 1
  | .slice elems spare => uptoBulkAll elems + uptoBulkAll spare + 1
  | .agg parts => uptoBulkAll parts + 1
  | .iface _ d => uptoBulk d + 1
  | .map entries => uptoBulkEntries entries + 1
  | .held _ => 1
def uptoBulkAll {H : Type} : List (DataW H) → Nat
  | [] => 0
  | d :: r => uptoBulk d + uptoBulkAll r
def uptoBulkEntries {H : Type} : List (Lit × DataW H) → Nat
  | [] => 0
  | x :: r => uptoBulkEntry x + uptoBulkEntries r
def uptoBulkEntry {H : Type} : Lit × DataW H → Nat
  | (.string bytes, d) => bytes.length + uptoBulk d + 1
  | (_, d) => uptoBulk d + 1
 end
def uptoSmall : (H : Type) → List (DataW H) → Bool := fun _ ds => decide (uptoBulkAll ds ≤ 1048576)
def OpenSpec.upto (s : _root_.Go.ChangeSpec) : _root_.Go.OpenSpec := { _root_.Go.OpenSpec.ofChange s with cond := some uptoSmall }

/-- 'hearsaylaw9.ImageChecks', WHERE WHAT IT READS IS OF BULK AT MOST 1048576: true; the input reads as it did. -/
def imageChecksUptoRow : OpenClaim := { program := "ytnajbkccaclkcaagreat", sum := "e64159906a1fd80abcf6e7eb475b9dff7cefd03ccf31616c5a3fbeba2e138e3f", func := "hearsay/hearsaylaw9.ImageChecks", spec := "imageChecks", unfollowed := true, recurses := true, plainKeys := false, apart := false, narrowed := true }
def ImageChecksUptoSaid : Prop := imageChecksUptoRow.holds Tryz.pinned (OpenSpec.upto imageChecksSpec)

/-- 'hearsaylaw9.ImageOwn', WHERE WHAT IT READS IS OF BULK AT MOST 1048576: true; the input reads as it did. -/
def imageOwnUptoRow : OpenClaim := { program := "ytnajbkccaclkcaagreat", sum := "e64159906a1fd80abcf6e7eb475b9dff7cefd03ccf31616c5a3fbeba2e138e3f", func := "hearsay/hearsaylaw9.ImageOwn", spec := "imageOwn", unfollowed := true, recurses := true, plainKeys := false, apart := false, narrowed := true }
def ImageOwnUptoSaid : Prop := imageOwnUptoRow.holds Tryz.pinned (OpenSpec.upto imageOwnSpec)

/-- 'hearsaylaw9.ImagePuts', WHERE WHAT IT READS IS OF BULK AT MOST 1048576: true; the input reads as it did. -/
def imagePutsUptoRow : OpenClaim := { program := "ytnajbkccaclkcaagreat", sum := "e64159906a1fd80abcf6e7eb475b9dff7cefd03ccf31616c5a3fbeba2e138e3f", func := "hearsay/hearsaylaw9.ImagePuts", spec := "imagePuts", unfollowed := true, recurses := true, plainKeys := false, apart := false, narrowed := true }
def ImagePutsUptoSaid : Prop := imagePutsUptoRow.holds Tryz.pinned (OpenSpec.upto imagePutsSpec)

end Rows
end Go.Proofs.YtnajbkccaclkcaaGreat
