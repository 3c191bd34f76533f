/-
  No cell of these rows narrows 'for every input' (looked for: loops, veiled, ifaces, maps, wideKeys, modest, calm, conditions, laid).
  DERIVED. THE GIVEN ROWS OF THIS SEAT. 6 by the template 'for every input the law returns true; each argument reads behind the call as it read before'; 0 by the template 'total and deterministic' (their statements: YtlefbnnlcacheaaTotals.lean).
  GIVEN WITH THE SEED: the statements are not yours to turn. If you find one false, say at which input.
  Laid BY PROGRAM, IN A SANDBOX (cutbox-rows.mjs): the forced cells as the released guide's own fill.sh prints them over the translation d697ae9aad16118c… (all of the seat's roots in one cut). By AI agents, Wed Nov 11 2026. No macro, syntax, notation, axiom, sorry.
-/
import Derived.Test.YtlefbnnlcacheaaChecked
import GoSem.Claim
import GoSem.ClaimJoined
import GoSem.ClaimMapViews
import Derived.JoinedTies
import Derived.KernelRfl
namespace Go.Proofs.Ytlefbnnlcacheaa
/- THE CELL 'sum', in the pinned program and in every row, IS THE sha256 OF THE DUMP (.gsa) THAT YtlefbnnlcacheaaProg.lean LOADS. Nothing in Lean hashes anything: it is a label: what it is worth is what the hold of that sum in a sandbox is worth. -/
noncomputable def Try.pinned : Pinned := { name := "ytlefbnnlcacheaa", sum := "d697ae9aad16118c10b1b1ac02f6b09c2c21b4c537e5044c5a5bb0b7758112fc", checked := Try.checked }
namespace Rows
def none {H : Type} : Left H := { results := [], args := [] }

/-- 'hearsaylaw7.VectorTells': WHATEVER THE INPUT: true; the input reads as it did. -/
def vectorTellsSpec : ChangeSpec := { name := "vectorTells", fn := fun _ => fun
  | [d1, d2, d3, d4] => { results := [.lit (.bool true)], args := [d1, d2, d3, d4] }
  | _ => none }
def vectorTellsRow : OpenClaim := { program := "ytlefbnnlcacheaa", sum := "d697ae9aad16118c10b1b1ac02f6b09c2c21b4c537e5044c5a5bb0b7758112fc", func := "hearsay/hearsaylaw7.VectorTells", spec := "vectorTells", unfollowed := true, recurses := true, apart := false }
def VectorTellsSaid : Prop := vectorTellsRow.holds Try.pinned (OpenSpec.ofChange vectorTellsSpec)

/-- ITS FALSE NEIGHBOUR: 'it returns false'. Refute it at one input. -/
def vectorTellsWrong : ChangeSpec := { name := "vectorTells", fn := fun _ => fun
  | [d1, d2, d3, d4] => { results := [.lit (.bool false)], args := [d1, d2, d3, d4] }
  | _ => none }
def VectorTellsWrongFalsely : Prop := vectorTellsRow.holds Try.pinned (OpenSpec.ofChange vectorTellsWrong)

/-- 'hearsaylaw7.VectorLattice': WHATEVER THE INPUT: true; the input reads as it did. -/
def vectorLatticeSpec : ChangeSpec := { name := "vectorLattice", fn := fun _ => fun
  | [d1, d2, d3] => { results := [.lit (.bool true)], args := [d1, d2, d3] }
  | _ => none }
def vectorLatticeRow : OpenClaim := { program := "ytlefbnnlcacheaa", sum := "d697ae9aad16118c10b1b1ac02f6b09c2c21b4c537e5044c5a5bb0b7758112fc", func := "hearsay/hearsaylaw7.VectorLattice", spec := "vectorLattice", unfollowed := true, recurses := true, apart := false }
def VectorLatticeSaid : Prop := vectorLatticeRow.holds Try.pinned (OpenSpec.ofChange vectorLatticeSpec)

/-- ITS FALSE NEIGHBOUR: 'it returns false'. Refute it at one input. -/
def vectorLatticeWrong : ChangeSpec := { name := "vectorLattice", fn := fun _ => fun
  | [d1, d2, d3] => { results := [.lit (.bool false)], args := [d1, d2, d3] }
  | _ => none }
def VectorLatticeWrongFalsely : Prop := vectorLatticeRow.holds Try.pinned (OpenSpec.ofChange vectorLatticeWrong)

/-- 'hearsaylaw7.VectorAdds': WHATEVER THE INPUT: true; the input reads as it did. -/
def vectorAddsSpec : ChangeSpec := { name := "vectorAdds", fn := fun _ => fun
  | [d1, d2, d3] => { results := [.lit (.bool true)], args := [d1, d2, d3] }
  | _ => none }
def vectorAddsRow : OpenClaim := { program := "ytlefbnnlcacheaa", sum := "d697ae9aad16118c10b1b1ac02f6b09c2c21b4c537e5044c5a5bb0b7758112fc", func := "hearsay/hearsaylaw7.VectorAdds", spec := "vectorAdds", unfollowed := true, recurses := true, apart := false }
def VectorAddsSaid : Prop := vectorAddsRow.holds Try.pinned (OpenSpec.ofChange vectorAddsSpec)

/-- ITS FALSE NEIGHBOUR: 'it returns false'. Refute it at one input. -/
def vectorAddsWrong : ChangeSpec := { name := "vectorAdds", fn := fun _ => fun
  | [d1, d2, d3] => { results := [.lit (.bool false)], args := [d1, d2, d3] }
  | _ => none }
def VectorAddsWrongFalsely : Prop := vectorAddsRow.holds Try.pinned (OpenSpec.ofChange vectorAddsWrong)

/-- 'hearsaylaw7.VectorOwn': WHATEVER THE INPUT: true; the input reads as it did. -/
def vectorOwnSpec : ChangeSpec := { name := "vectorOwn", fn := fun _ => fun
  | [d1, d2] => { results := [.lit (.bool true)], args := [d1, d2] }
  | _ => none }
def vectorOwnRow : OpenClaim := { program := "ytlefbnnlcacheaa", sum := "d697ae9aad16118c10b1b1ac02f6b09c2c21b4c537e5044c5a5bb0b7758112fc", func := "hearsay/hearsaylaw7.VectorOwn", spec := "vectorOwn", unfollowed := true, recurses := true, apart := false }
def VectorOwnSaid : Prop := vectorOwnRow.holds Try.pinned (OpenSpec.ofChange vectorOwnSpec)

/-- ITS FALSE NEIGHBOUR: 'it returns false'. Refute it at one input. -/
def vectorOwnWrong : ChangeSpec := { name := "vectorOwn", fn := fun _ => fun
  | [d1, d2] => { results := [.lit (.bool false)], args := [d1, d2] }
  | _ => none }
def VectorOwnWrongFalsely : Prop := vectorOwnRow.holds Try.pinned (OpenSpec.ofChange vectorOwnWrong)

/-- 'hearsaylaw7.VectorTakes': WHATEVER THE INPUT: true; the input reads as it did. -/
def vectorTakesSpec : ChangeSpec := { name := "vectorTakes", fn := fun _ => fun
  | [d] => { results := [.lit (.bool true)], args := [d] }
  | _ => none }
def vectorTakesRow : OpenClaim := { program := "ytlefbnnlcacheaa", sum := "d697ae9aad16118c10b1b1ac02f6b09c2c21b4c537e5044c5a5bb0b7758112fc", func := "hearsay/hearsaylaw7.VectorTakes", spec := "vectorTakes", unfollowed := true, recurses := true, apart := false }
def VectorTakesSaid : Prop := vectorTakesRow.holds Try.pinned (OpenSpec.ofChange vectorTakesSpec)

/-- ITS FALSE NEIGHBOUR: 'it returns false'. Refute it at one input. -/
def vectorTakesWrong : ChangeSpec := { name := "vectorTakes", fn := fun _ => fun
  | [d] => { results := [.lit (.bool false)], args := [d] }
  | _ => none }
def VectorTakesWrongFalsely : Prop := vectorTakesRow.holds Try.pinned (OpenSpec.ofChange vectorTakesWrong)

/-- 'hearsaylaw7.VectorPuts': WHATEVER THE INPUT: true; the input reads as it did. -/
def vectorPutsSpec : ChangeSpec := { name := "vectorPuts", fn := fun _ => fun
  | [d1, d2, d3] => { results := [.lit (.bool true)], args := [d1, d2, d3] }
  | _ => none }
def vectorPutsRow : OpenClaim := { program := "ytlefbnnlcacheaa", sum := "d697ae9aad16118c10b1b1ac02f6b09c2c21b4c537e5044c5a5bb0b7758112fc", func := "hearsay/hearsaylaw7.VectorPuts", spec := "vectorPuts", unfollowed := true, recurses := true, apart := false }
def VectorPutsSaid : Prop := vectorPutsRow.holds Try.pinned (OpenSpec.ofChange vectorPutsSpec)

/-- ITS FALSE NEIGHBOUR: 'it returns false'. Refute it at one input. -/
def vectorPutsWrong : ChangeSpec := { name := "vectorPuts", fn := fun _ => fun
  | [d1, d2, d3] => { results := [.lit (.bool false)], args := [d1, d2, d3] }
  | _ => none }
def VectorPutsWrongFalsely : Prop := vectorPutsRow.holds Try.pinned (OpenSpec.ofChange vectorPutsWrong)

/- THE SECOND FORM. 'bulk': how many values and letters a reading holds, each counted each time it is reached (what is shared counts as often as it is met; a slice's spare places count too). A statement '..UptoSaid' is the law's where the arguments, and the package variables that the reading takes, are together of bulk at most 1048576: NARROWER than '..Said'. Prove '..Said' where nothing that the law and all that it calls make is longer than what came in: it says more and counts as full. Else prove '..UptoSaid'. A law counts once. -/
mutual
def uptoBulk {H : Type} : DataW H → Nat
  | .lit (.string bytes) => bytes.length + 1
  | .lit _ => 1
  | .nil => 1
  | .ptr d => uptoBulk d + 1
  | .slice elems spare => uptoBulkAll elems + uptoBulkAll spare + 1
  | .agg parts => uptoBulkAll parts + 1
  | .iface _ d => uptoBulk d + 1
  | .map entries => uptoBulkEntries entries + 1
  | .held _ => 1
def uptoBulkAll {H : Type} : List (DataW H) → Nat
  | [] => 0
  | d :: r => uptoBulk d + uptoBulkAll r
def uptoBulkEntries {H : Type} : List (Lit × DataW H) → Nat
  | [] => 0
  | x :: r => uptoBulkEntry x + uptoBulkEntries r
def uptoBulkEntry {H : Type} : Lit × DataW H → Nat
  | (.string bytes, d) => bytes.length + uptoBulk d + 1
  | (_, d) => uptoBulk d + 1
 end
def uptoSmall : (H : Type) → List (DataW H) → Bool := fun _ ds => decide (uptoBulkAll ds ≤ 1048576)
def OpenSpec.upto (s : _root_.Go.ChangeSpec) : _root_.Go.OpenSpec := { _root_.Go.OpenSpec.ofChange s with cond := some uptoSmall }

/-- 'hearsaylaw7.VectorTells', WHERE WHAT IT READS IS OF BULK AT MOST 1048576: true; the input reads as it did. -/
def vectorTellsUptoRow : OpenClaim := { program := "ytlefbnnlcacheaa", sum := "d697ae9aad16118c10b1b1ac02f6b09c2c21b4c537e5044c5a5bb0b7758112fc", func := "hearsay/hearsaylaw7.VectorTells", spec := "vectorTells", unfollowed := true, recurses := true, apart := false, narrowed := true }
def VectorTellsUptoSaid : Prop := vectorTellsUptoRow.holds Try.pinned (OpenSpec.upto vectorTellsSpec)

/-- 'hearsaylaw7.VectorLattice', WHERE WHAT IT READS IS OF BULK AT MOST 1048576: true; the input reads as it did. -/
def vectorLatticeUptoRow : OpenClaim := { program := "ytlefbnnlcacheaa", sum := "d697ae9aad16118c10b1b1ac02f6b09c2c21b4c537e5044c5a5bb0b7758112fc", func := "hearsay/hearsaylaw7.VectorLattice", spec := "vectorLattice", unfollowed := true, recurses := true, apart := false, narrowed := true }
def VectorLatticeUptoSaid : Prop := vectorLatticeUptoRow.holds Try.pinned (OpenSpec.upto vectorLatticeSpec)

/-- 'hearsaylaw7.VectorAdds', WHERE WHAT IT READS IS OF BULK AT MOST 1048576: true; the input reads as it did. -/
def vectorAddsUptoRow : OpenClaim := { program := "ytlefbnnlcacheaa", sum := "d697ae9aad16118c10b1b1ac02f6b09c2c21b4c537e5044c5a5bb0b7758112fc", func := "hearsay/hearsaylaw7.VectorAdds", spec := "vectorAdds", unfollowed := true, recurses := true, apart := false, narrowed := true }
def VectorAddsUptoSaid : Prop := vectorAddsUptoRow.holds Try.pinned (OpenSpec.upto vectorAddsSpec)

/-- 'hearsaylaw7.VectorOwn', WHERE WHAT IT READS IS OF BULK AT MOST 1048576: true; the input reads as it did. -/
def vectorOwnUptoRow : OpenClaim := { program := "ytlefbnnlcacheaa", sum := "d697ae9aad16118c10b1b1ac02f6b09c2c21b4c537e5044c5a5bb0b7758112fc", func := "hearsay/hearsaylaw7.VectorOwn", spec := "vectorOwn", unfollowed := true, recurses := true, apart := false, narrowed := true }
def VectorOwnUptoSaid : Prop := vectorOwnUptoRow.holds Try.pinned (OpenSpec.upto vectorOwnSpec)

/-- 'hearsaylaw7.VectorTakes', WHERE WHAT IT READS IS OF BULK AT MOST 1048576: true; the input reads as it did. -/
def vectorTakesUptoRow : OpenClaim := { program := "ytlefbnnlcacheaa", sum := "d697ae9aad16118c10b1b1ac02f6b09c2c21b4c537e5044c5a5bb0b7758112fc", func := "hearsay/hearsaylaw7.VectorTakes", spec := "vectorTakes", unfollowed := true, recurses := true, apart := false, narrowed := true }
def VectorTakesUptoSaid : Prop := vectorTakesUptoRow.holds Try.pinned (OpenSpec.upto vectorTakesSpec)

/-- 'hearsaylaw7.VectorPuts', WHERE WHAT IT READS IS OF BULK AT MOST 1048576: true; the input reads as it did. -/
def vectorPutsUptoRow : OpenClaim := { program := "ytlefbnnlcacheaa", sum := "d697ae9aad16118c10b1b1ac02f6b09c2c21b4c537e5044c5a5bb0b7758112fc", func := "hearsay/hearsaylaw7.VectorPuts", spec := "vectorPuts", unfollowed := true, recurses := true, apart := false, narrowed := true }
def VectorPutsUptoSaid : Prop := vectorPutsUptoRow.holds Try.pinned (OpenSpec.upto vectorPutsSpec)

end Rows
end Go.Proofs.Ytlefbnnlcacheaa
