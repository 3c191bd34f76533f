/-
  No cell of these rows narrows 'for every input' (looked for: loops, veiled, ifaces, maps, wideKeys, modest, calm, conditions, laid).
  DERIVED. THE GIVEN ROWS OF THIS SEAT. 7 by the template 'for every input the law returns true; each argument reads behind the call as it read before'; 0 by the template 'total and deterministic' (their statements: YtnfehkncfjgeeaaTotals.lean).
  GIVEN WITH THE SEED: the statements are not yours to turn. If you find one false, say at which input.
  Laid BY PROGRAM, IN A SANDBOX (cutbox-rows.mjs): the forced cells as the released guide's own fill.sh prints them over the translation e4bbdbb3192142c3… (all of the seat's roots in one cut). By AI agents, Wed Nov 11 2026. No macro, syntax, notation, axiom, sorry.
-/
import Derived.Test.YtnfehkncfjgeeaaChecked
import GoSem.Claim
import GoSem.ClaimJoined
import GoSem.ClaimMapViews
import Derived.JoinedTies
import Derived.KernelRfl
namespace Go.Proofs.Ytnfehkncfjgeeaa
/- THE CELL 'sum', in the pinned program and in every row, IS THE sha256 OF THE DUMP (.gsa) THAT YtnfehkncfjgeeaaProg.lean LOADS. Nothing in Lean hashes anything: it is a label: what it is worth is what the hold of that sum in a sandbox is worth. -/
noncomputable def Try.pinned : Pinned := { name := "ytnfehkncfjgeeaa", sum := "e4bbdbb3192142c3d9cedcf45eb505313e4dfcae51f41ba2a646629c08269119", checked := Try.checked }
namespace Rows
def none {H : Type} : Left H := { results := [], args := [] }

/-- 'hearsaylaw12.LogPlays': WHATEVER THE INPUT: true; the input reads as it did. -/
def logPlaysSpec : ChangeSpec := { name := "logPlays", fn := fun _ => fun
  | [d1, d2] => { results := [.lit (.bool true)], args := [d1, d2] }
  | _ => none }
def logPlaysRow : OpenClaim := { program := "ytnfehkncfjgeeaa", sum := "e4bbdbb3192142c3d9cedcf45eb505313e4dfcae51f41ba2a646629c08269119", func := "hearsay/hearsaylaw12.LogPlays", spec := "logPlays", unfollowed := true, recurses := true, apart := false }
def LogPlaysSaid : Prop := logPlaysRow.holds Try.pinned (OpenSpec.ofChange logPlaysSpec)

/-- ITS FALSE NEIGHBOUR: 'it returns false'. Refute it at one input. -/
def logPlaysWrong : ChangeSpec := { name := "logPlays", fn := fun _ => fun
  | [d1, d2] => { results := [.lit (.bool false)], args := [d1, d2] }
  | _ => none }
def LogPlaysWrongFalsely : Prop := logPlaysRow.holds Try.pinned (OpenSpec.ofChange logPlaysWrong)

/-- 'hearsaylaw12.LogTwo': WHATEVER THE INPUT: true; the input reads as it did. -/
def logTwoSpec : ChangeSpec := { name := "logTwo", fn := fun _ => fun
  | [d1, d2] => { results := [.lit (.bool true)], args := [d1, d2] }
  | _ => none }
def logTwoRow : OpenClaim := { program := "ytnfehkncfjgeeaa", sum := "e4bbdbb3192142c3d9cedcf45eb505313e4dfcae51f41ba2a646629c08269119", func := "hearsay/hearsaylaw12.LogTwo", spec := "logTwo", unfollowed := true, recurses := true, apart := false }
def LogTwoSaid : Prop := logTwoRow.holds Try.pinned (OpenSpec.ofChange logTwoSpec)

/-- ITS FALSE NEIGHBOUR: 'it returns false'. Refute it at one input. -/
def logTwoWrong : ChangeSpec := { name := "logTwo", fn := fun _ => fun
  | [d1, d2] => { results := [.lit (.bool false)], args := [d1, d2] }
  | _ => none }
def LogTwoWrongFalsely : Prop := logTwoRow.holds Try.pinned (OpenSpec.ofChange logTwoWrong)

/-- 'hearsaylaw12.LogNothing': WHATEVER THE INPUT: true; the input reads as it did. -/
def logNothingSpec : ChangeSpec := { name := "logNothing", fn := fun _ => fun
  | [d1, d2] => { results := [.lit (.bool true)], args := [d1, d2] }
  | _ => none }
def logNothingRow : OpenClaim := { program := "ytnfehkncfjgeeaa", sum := "e4bbdbb3192142c3d9cedcf45eb505313e4dfcae51f41ba2a646629c08269119", func := "hearsay/hearsaylaw12.LogNothing", spec := "logNothing", unfollowed := true, recurses := true, apart := false }
def LogNothingSaid : Prop := logNothingRow.holds Try.pinned (OpenSpec.ofChange logNothingSpec)

/-- ITS FALSE NEIGHBOUR: 'it returns false'. Refute it at one input. -/
def logNothingWrong : ChangeSpec := { name := "logNothing", fn := fun _ => fun
  | [d1, d2] => { results := [.lit (.bool false)], args := [d1, d2] }
  | _ => none }
def LogNothingWrongFalsely : Prop := logNothingRow.holds Try.pinned (OpenSpec.ofChange logNothingWrong)

/-- 'hearsaylaw12.LogBeyonds': WHATEVER THE INPUT: true; the input reads as it did. -/
def logBeyondsSpec : ChangeSpec := { name := "logBeyonds", fn := fun _ => fun
  | [d1, d2, d3, d4] => { results := [.lit (.bool true)], args := [d1, d2, d3, d4] }
  | _ => none }
def logBeyondsRow : OpenClaim := { program := "ytnfehkncfjgeeaa", sum := "e4bbdbb3192142c3d9cedcf45eb505313e4dfcae51f41ba2a646629c08269119", func := "hearsay/hearsaylaw12.LogBeyonds", spec := "logBeyonds", unfollowed := true, recurses := true, apart := false }
def LogBeyondsSaid : Prop := logBeyondsRow.holds Try.pinned (OpenSpec.ofChange logBeyondsSpec)

/-- ITS FALSE NEIGHBOUR: 'it returns false'. Refute it at one input. -/
def logBeyondsWrong : ChangeSpec := { name := "logBeyonds", fn := fun _ => fun
  | [d1, d2, d3, d4] => { results := [.lit (.bool false)], args := [d1, d2, d3, d4] }
  | _ => none }
def LogBeyondsWrongFalsely : Prop := logBeyondsRow.holds Try.pinned (OpenSpec.ofChange logBeyondsWrong)

/-- 'hearsaylaw12.LogMeans': WHATEVER THE INPUT: true; the input reads as it did. -/
def logMeansSpec : ChangeSpec := { name := "logMeans", fn := fun _ => fun
  | [d1, d2, d3] => { results := [.lit (.bool true)], args := [d1, d2, d3] }
  | _ => none }
def logMeansRow : OpenClaim := { program := "ytnfehkncfjgeeaa", sum := "e4bbdbb3192142c3d9cedcf45eb505313e4dfcae51f41ba2a646629c08269119", func := "hearsay/hearsaylaw12.LogMeans", spec := "logMeans", unfollowed := true, recurses := true, apart := false }
def LogMeansSaid : Prop := logMeansRow.holds Try.pinned (OpenSpec.ofChange logMeansSpec)

/-- ITS FALSE NEIGHBOUR: 'it returns false'. Refute it at one input. -/
def logMeansWrong : ChangeSpec := { name := "logMeans", fn := fun _ => fun
  | [d1, d2, d3] => { results := [.lit (.bool false)], args := [d1, d2, d3] }
  | _ => none }
def LogMeansWrongFalsely : Prop := logMeansRow.holds Try.pinned (OpenSpec.ofChange logMeansWrong)

/-- 'hearsaylaw12.LogCuts': WHATEVER THE INPUT: true; the input reads as it did. -/
def logCutsSpec : ChangeSpec := { name := "logCuts", fn := fun _ => fun
  | [d1, d2, d3, d4] => { results := [.lit (.bool true)], args := [d1, d2, d3, d4] }
  | _ => none }
def logCutsRow : OpenClaim := { program := "ytnfehkncfjgeeaa", sum := "e4bbdbb3192142c3d9cedcf45eb505313e4dfcae51f41ba2a646629c08269119", func := "hearsay/hearsaylaw12.LogCuts", spec := "logCuts", unfollowed := true, recurses := true, apart := false }
def LogCutsSaid : Prop := logCutsRow.holds Try.pinned (OpenSpec.ofChange logCutsSpec)

/-- ITS FALSE NEIGHBOUR: 'it returns false'. Refute it at one input. -/
def logCutsWrong : ChangeSpec := { name := "logCuts", fn := fun _ => fun
  | [d1, d2, d3, d4] => { results := [.lit (.bool false)], args := [d1, d2, d3, d4] }
  | _ => none }
def LogCutsWrongFalsely : Prop := logCutsRow.holds Try.pinned (OpenSpec.ofChange logCutsWrong)

/-- 'hearsaylaw12.LogOwn': WHATEVER THE INPUT: true; the input reads as it did. -/
def logOwnSpec : ChangeSpec := { name := "logOwn", fn := fun _ => fun
  | [d1, d2] => { results := [.lit (.bool true)], args := [d1, d2] }
  | _ => none }
def logOwnRow : OpenClaim := { program := "ytnfehkncfjgeeaa", sum := "e4bbdbb3192142c3d9cedcf45eb505313e4dfcae51f41ba2a646629c08269119", func := "hearsay/hearsaylaw12.LogOwn", spec := "logOwn", unfollowed := true, recurses := true, apart := false }
def LogOwnSaid : Prop := logOwnRow.holds Try.pinned (OpenSpec.ofChange logOwnSpec)

/-- ITS FALSE NEIGHBOUR: 'it returns false'. Refute it at one input. -/
def logOwnWrong : ChangeSpec := { name := "logOwn", fn := fun _ => fun
  | [d1, d2] => { results := [.lit (.bool false)], args := [d1, d2] }
  | _ => none }
def LogOwnWrongFalsely : Prop := logOwnRow.holds Try.pinned (OpenSpec.ofChange logOwnWrong)

/- THE SECOND FORM. 'bulk': how many values and letters a reading holds, each counted each time it is reached (what is shared counts as often as it is met; a slice's spare places count too). A statement '..UptoSaid' is the law's where the arguments, and the package variables that the reading takes, are together of bulk at most 1048576: NARROWER than '..Said'. Prove '..Said' where nothing that the law and all that it calls make is longer than what came in: it says more and counts as full. Else prove '..UptoSaid'. A law counts once. -/
mutual
def uptoBulk {H : Type} : DataW H → Nat
  | .lit (.string bytes) => bytes.length + 1
  | .lit _ => 1
  | .nil => 1
  | .ptr d => uptoBulk d + 1
  | .slice elems spare => uptoBulkAll elems + uptoBulkAll spare + 1
  | .agg parts => uptoBulkAll parts + 1
  | .iface _ d => uptoBulk d + 1
  | .map entries => uptoBulkEntries entries + 1
  | .held _ => 1
def uptoBulkAll {H : Type} : List (DataW H) → Nat
  | [] => 0
  | d :: r => uptoBulk d + uptoBulkAll r
def uptoBulkEntries {H : Type} : List (Lit × DataW H) → Nat
  | [] => 0
  | x :: r => uptoBulkEntry x + uptoBulkEntries r
def uptoBulkEntry {H : Type} : Lit × DataW H → Nat
  | (.string bytes, d) => bytes.length + uptoBulk d + 1
  | (_, d) => uptoBulk d + 1
 end
def uptoSmall : (H : Type) → List (DataW H) → Bool := fun _ ds => decide (uptoBulkAll ds ≤ 1048576)
def OpenSpec.upto (s : _root_.Go.ChangeSpec) : _root_.Go.OpenSpec := { _root_.Go.OpenSpec.ofChange s with cond := some uptoSmall }

/-- 'hearsaylaw12.LogPlays', WHERE WHAT IT READS IS OF BULK AT MOST 1048576: true; the input reads as it did. -/
def logPlaysUptoRow : OpenClaim := { program := "ytnfehkncfjgeeaa", sum := "e4bbdbb3192142c3d9cedcf45eb505313e4dfcae51f41ba2a646629c08269119", func := "hearsay/hearsaylaw12.LogPlays", spec := "logPlays", unfollowed := true, recurses := true, apart := false, narrowed := true }
def LogPlaysUptoSaid : Prop := logPlaysUptoRow.holds Try.pinned (OpenSpec.upto logPlaysSpec)

/-- 'hearsaylaw12.LogTwo', WHERE WHAT IT READS IS OF BULK AT MOST 1048576: true; the input reads as it did. -/
def logTwoUptoRow : OpenClaim := { program := "ytnfehkncfjgeeaa", sum := "e4bbdbb3192142c3d9cedcf45eb505313e4dfcae51f41ba2a646629c08269119", func := "hearsay/hearsaylaw12.LogTwo", spec := "logTwo", unfollowed := true, recurses := true, apart := false, narrowed := true }
def LogTwoUptoSaid : Prop := logTwoUptoRow.holds Try.pinned (OpenSpec.upto logTwoSpec)

/-- 'hearsaylaw12.LogNothing', WHERE WHAT IT READS IS OF BULK AT MOST 1048576: true; the input reads as it did. -/
def logNothingUptoRow : OpenClaim := { program := "ytnfehkncfjgeeaa", sum := "e4bbdbb3192142c3d9cedcf45eb505313e4dfcae51f41ba2a646629c08269119", func := "hearsay/hearsaylaw12.LogNothing", spec := "logNothing", unfollowed := true, recurses := true, apart := false, narrowed := true }
def LogNothingUptoSaid : Prop := logNothingUptoRow.holds Try.pinned (OpenSpec.upto logNothingSpec)

/-- 'hearsaylaw12.LogBeyonds', WHERE WHAT IT READS IS OF BULK AT MOST 1048576: true; the input reads as it did. -/
def logBeyondsUptoRow : OpenClaim := { program := "ytnfehkncfjgeeaa", sum := "e4bbdbb3192142c3d9cedcf45eb505313e4dfcae51f41ba2a646629c08269119", func := "hearsay/hearsaylaw12.LogBeyonds", spec := "logBeyonds", unfollowed := true, recurses := true, apart := false, narrowed := true }
def LogBeyondsUptoSaid : Prop := logBeyondsUptoRow.holds Try.pinned (OpenSpec.upto logBeyondsSpec)

/-- 'hearsaylaw12.LogMeans', WHERE WHAT IT READS IS OF BULK AT MOST 1048576: true; the input reads as it did. -/
def logMeansUptoRow : OpenClaim := { program := "ytnfehkncfjgeeaa", sum := "e4bbdbb3192142c3d9cedcf45eb505313e4dfcae51f41ba2a646629c08269119", func := "hearsay/hearsaylaw12.LogMeans", spec := "logMeans", unfollowed := true, recurses := true, apart := false, narrowed := true }
def LogMeansUptoSaid : Prop := logMeansUptoRow.holds Try.pinned (OpenSpec.upto logMeansSpec)

/-- 'hearsaylaw12.LogCuts', WHERE WHAT IT READS IS OF BULK AT MOST 1048576: true; the input reads as it did. -/
def logCutsUptoRow : OpenClaim := { program := "ytnfehkncfjgeeaa", sum := "e4bbdbb3192142c3d9cedcf45eb505313e4dfcae51f41ba2a646629c08269119", func := "hearsay/hearsaylaw12.LogCuts", spec := "logCuts", unfollowed := true, recurses := true, apart := false, narrowed := true }
def LogCutsUptoSaid : Prop := logCutsUptoRow.holds Try.pinned (OpenSpec.upto logCutsSpec)

/-- 'hearsaylaw12.LogOwn', WHERE WHAT IT READS IS OF BULK AT MOST 1048576: true; the input reads as it did. -/
def logOwnUptoRow : OpenClaim := { program := "ytnfehkncfjgeeaa", sum := "e4bbdbb3192142c3d9cedcf45eb505313e4dfcae51f41ba2a646629c08269119", func := "hearsay/hearsaylaw12.LogOwn", spec := "logOwn", unfollowed := true, recurses := true, apart := false, narrowed := true }
def LogOwnUptoSaid : Prop := logOwnUptoRow.holds Try.pinned (OpenSpec.upto logOwnSpec)

end Rows
end Go.Proofs.Ytnfehkncfjgeeaa
