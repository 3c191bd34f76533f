/-
  No cell of these rows narrows 'for every input' (looked for: loops, veiled, ifaces, maps, wideKeys, modest, calm, conditions, laid).
  DERIVED. THE GIVEN ROWS OF THIS SEAT. 4 by the template 'for every input the law returns true; each argument reads behind the call as it read before'; 0 by the template 'total and deterministic' (their statements: YtkekhnohehhljaaTotals.lean).
  GIVEN WITH THE SEED: the statements are not yours to turn. If you find one false, say at which input.
  Laid BY PROGRAM, IN A SANDBOX (cutbox-rows.mjs): the forced cells as the released guide's own fill.sh prints them over the translation 079ef7d4bd2ffe36… (all of the seat's roots in one cut). By AI agents, Wed Nov 11 2026. No macro, syntax, notation, axiom, sorry.
-/
import Derived.Test.YtkekhnohehhljaaChecked
import GoSem.Claim
import GoSem.ClaimJoined
import GoSem.ClaimMapViews
import Derived.JoinedTies
import Derived.KernelRfl
namespace Go.Proofs.Ytkekhnohehhljaa
/- THE CELL 'sum', in the pinned program and in every row, IS THE sha256 OF THE DUMP (.gsa) THAT YtkekhnohehhljaaProg.lean LOADS. Nothing in Lean hashes anything: it is a label: what it is worth is what the hold of that sum in a sandbox is worth. -/
noncomputable def Try.pinned : Pinned := { name := "ytkekhnohehhljaa", sum := "079ef7d4bd2ffe366adad9f2f4d67ae590bea778d41eeb1ce666472a30819a35", checked := Try.checked }
namespace Rows
def none {H : Type} : Left H := { results := [], args := [] }

/-- 'hearsaylaw23.FairBounds': WHATEVER THE INPUT: true; the input reads as it did. -/
def fairBoundsSpec : ChangeSpec := { name := "fairBounds", fn := fun _ => fun
  | [d] => { results := [.lit (.bool true)], args := [d] }
  | _ => none }
def fairBoundsRow : OpenClaim := { program := "ytkekhnohehhljaa", sum := "079ef7d4bd2ffe366adad9f2f4d67ae590bea778d41eeb1ce666472a30819a35", func := "hearsay/hearsaylaw23.FairBounds", spec := "fairBounds", unfollowed := true, recurses := true, apart := false }
def FairBoundsSaid : Prop := fairBoundsRow.holds Try.pinned (OpenSpec.ofChange fairBoundsSpec)

/-- ITS FALSE NEIGHBOUR: 'it returns false'. Refute it at one input. -/
def fairBoundsWrong : ChangeSpec := { name := "fairBounds", fn := fun _ => fun
  | [d] => { results := [.lit (.bool false)], args := [d] }
  | _ => none }
def FairBoundsWrongFalsely : Prop := fairBoundsRow.holds Try.pinned (OpenSpec.ofChange fairBoundsWrong)

/-- 'hearsaylaw23.FairStands': WHATEVER THE INPUT: true; the input reads as it did. -/
def fairStandsSpec : ChangeSpec := { name := "fairStands", fn := fun _ => fun
  | [d1, d2, d3, d4] => { results := [.lit (.bool true)], args := [d1, d2, d3, d4] }
  | _ => none }
def fairStandsRow : OpenClaim := { program := "ytkekhnohehhljaa", sum := "079ef7d4bd2ffe366adad9f2f4d67ae590bea778d41eeb1ce666472a30819a35", func := "hearsay/hearsaylaw23.FairStands", spec := "fairStands", unfollowed := true, recurses := true, apart := false }
def FairStandsSaid : Prop := fairStandsRow.holds Try.pinned (OpenSpec.ofChange fairStandsSpec)

/-- ITS FALSE NEIGHBOUR: 'it returns false'. Refute it at one input. -/
def fairStandsWrong : ChangeSpec := { name := "fairStands", fn := fun _ => fun
  | [d1, d2, d3, d4] => { results := [.lit (.bool false)], args := [d1, d2, d3, d4] }
  | _ => none }
def FairStandsWrongFalsely : Prop := fairStandsRow.holds Try.pinned (OpenSpec.ofChange fairStandsWrong)

/-- 'hearsaylaw23.FairMost': WHATEVER THE INPUT: true; the input reads as it did. -/
def fairMostSpec : ChangeSpec := { name := "fairMost", fn := fun _ => fun
  | [d1, d2, d3, d4, d5] => { results := [.lit (.bool true)], args := [d1, d2, d3, d4, d5] }
  | _ => none }
def fairMostRow : OpenClaim := { program := "ytkekhnohehhljaa", sum := "079ef7d4bd2ffe366adad9f2f4d67ae590bea778d41eeb1ce666472a30819a35", func := "hearsay/hearsaylaw23.FairMost", spec := "fairMost", unfollowed := true, recurses := true, apart := false }
def FairMostSaid : Prop := fairMostRow.holds Try.pinned (OpenSpec.ofChange fairMostSpec)

/-- ITS FALSE NEIGHBOUR: 'it returns false'. Refute it at one input. -/
def fairMostWrong : ChangeSpec := { name := "fairMost", fn := fun _ => fun
  | [d1, d2, d3, d4, d5] => { results := [.lit (.bool false)], args := [d1, d2, d3, d4, d5] }
  | _ => none }
def FairMostWrongFalsely : Prop := fairMostRow.holds Try.pinned (OpenSpec.ofChange fairMostWrong)

/-- 'hearsaylaw23.FairMore': WHATEVER THE INPUT: true; the input reads as it did. -/
def fairMoreSpec : ChangeSpec := { name := "fairMore", fn := fun _ => fun
  | [d1, d2, d3, d4, d5, d6, d7] => { results := [.lit (.bool true)], args := [d1, d2, d3, d4, d5, d6, d7] }
  | _ => none }
def fairMoreRow : OpenClaim := { program := "ytkekhnohehhljaa", sum := "079ef7d4bd2ffe366adad9f2f4d67ae590bea778d41eeb1ce666472a30819a35", func := "hearsay/hearsaylaw23.FairMore", spec := "fairMore", unfollowed := true, recurses := true, apart := false }
def FairMoreSaid : Prop := fairMoreRow.holds Try.pinned (OpenSpec.ofChange fairMoreSpec)

/-- ITS FALSE NEIGHBOUR: 'it returns false'. Refute it at one input. -/
def fairMoreWrong : ChangeSpec := { name := "fairMore", fn := fun _ => fun
  | [d1, d2, d3, d4, d5, d6, d7] => { results := [.lit (.bool false)], args := [d1, d2, d3, d4, d5, d6, d7] }
  | _ => none }
def FairMoreWrongFalsely : Prop := fairMoreRow.holds Try.pinned (OpenSpec.ofChange fairMoreWrong)

/- THE SECOND FORM. 'bulk': how many values and letters a reading holds, each counted each time it is reached (what is shared counts as often as it is met; a slice's spare places count too). A statement '..UptoSaid' is the law's where the arguments, and the package variables that the reading takes, are together of bulk at most 1048576: NARROWER than '..Said'. Prove '..Said' where nothing that the law and all that it calls make is longer than what came in: it says more and counts as full. Else prove '..UptoSaid'. A law counts once. -/
mutual
def uptoBulk {H : Type} : DataW H → Nat
  | .lit (.string bytes) => bytes.length + 1
  | .lit _ => 1
  | .nil => 1
  | .ptr d => uptoBulk d + 1
  | .slice elems spare => uptoBulkAll elems + uptoBulkAll spare + 1
  | .agg parts => uptoBulkAll parts + 1
  | .iface _ d => uptoBulk d + 1
  | .map entries => uptoBulkEntries entries + 1
  | .held _ => 1
def uptoBulkAll {H : Type} : List (DataW H) → Nat
  | [] => 0
  | d :: r => uptoBulk d + uptoBulkAll r
def uptoBulkEntries {H : Type} : List (Lit × DataW H) → Nat
  | [] => 0
  | x :: r => uptoBulkEntry x + uptoBulkEntries r
def uptoBulkEntry {H : Type} : Lit × DataW H → Nat
  | (.string bytes, d) => bytes.length + uptoBulk d + 1
  | (_, d) => uptoBulk d + 1
 end
def uptoSmall : (H : Type) → List (DataW H) → Bool := fun _ ds => decide (uptoBulkAll ds ≤ 1048576)
def OpenSpec.upto (s : _root_.Go.ChangeSpec) : _root_.Go.OpenSpec := { _root_.Go.OpenSpec.ofChange s with cond := some uptoSmall }

/-- 'hearsaylaw23.FairBounds', WHERE WHAT IT READS IS OF BULK AT MOST 1048576: true; the input reads as it did. -/
def fairBoundsUptoRow : OpenClaim := { program := "ytkekhnohehhljaa", sum := "079ef7d4bd2ffe366adad9f2f4d67ae590bea778d41eeb1ce666472a30819a35", func := "hearsay/hearsaylaw23.FairBounds", spec := "fairBounds", unfollowed := true, recurses := true, apart := false, narrowed := true }
def FairBoundsUptoSaid : Prop := fairBoundsUptoRow.holds Try.pinned (OpenSpec.upto fairBoundsSpec)

/-- 'hearsaylaw23.FairStands', WHERE WHAT IT READS IS OF BULK AT MOST 1048576: true; the input reads as it did. -/
def fairStandsUptoRow : OpenClaim := { program := "ytkekhnohehhljaa", sum := "079ef7d4bd2ffe366adad9f2f4d67ae590bea778d41eeb1ce666472a30819a35", func := "hearsay/hearsaylaw23.FairStands", spec := "fairStands", unfollowed := true, recurses := true, apart := false, narrowed := true }
def FairStandsUptoSaid : Prop := fairStandsUptoRow.holds Try.pinned (OpenSpec.upto fairStandsSpec)

/-- 'hearsaylaw23.FairMost', WHERE WHAT IT READS IS OF BULK AT MOST 1048576: true; the input reads as it did. -/
def fairMostUptoRow : OpenClaim := { program := "ytkekhnohehhljaa", sum := "079ef7d4bd2ffe366adad9f2f4d67ae590bea778d41eeb1ce666472a30819a35", func := "hearsay/hearsaylaw23.FairMost", spec := "fairMost", unfollowed := true, recurses := true, apart := false, narrowed := true }
def FairMostUptoSaid : Prop := fairMostUptoRow.holds Try.pinned (OpenSpec.upto fairMostSpec)

/-- 'hearsaylaw23.FairMore', WHERE WHAT IT READS IS OF BULK AT MOST 1048576: true; the input reads as it did. -/
def fairMoreUptoRow : OpenClaim := { program := "ytkekhnohehhljaa", sum := "079ef7d4bd2ffe366adad9f2f4d67ae590bea778d41eeb1ce666472a30819a35", func := "hearsay/hearsaylaw23.FairMore", spec := "fairMore", unfollowed := true, recurses := true, apart := false, narrowed := true }
def FairMoreUptoSaid : Prop := fairMoreUptoRow.holds Try.pinned (OpenSpec.upto fairMoreSpec)

end Rows
end Go.Proofs.Ytkekhnohehhljaa
