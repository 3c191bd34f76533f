/- The walk of the reference's Covers. Conditions: the Dots lie in memory as DotsAt says. · The walk of Add. Conditions: the Dots lie in memory as DotsAt says. -/
import Derived.Test.YtnlklhlnnoihiaaMO12
namespace Go.Proofs.Ytnlklhlnnoihiaa
open Go.RowKit

end Go.Proofs.Ytnlklhlnnoihiaa

namespace Go.Proofs.Ytnlklhlnnoihiaa
open Go.RowKit

def AddPost (w : World) (l : List Dt) (n : Int) (e : Ending) (w' : World) : Prop :=
  ∃ A c, e = .returned (.tuple #[.slice A l.length c, .int .i64 n]) ∧ w'.ownsRow w.heap.size 23 2 (.slice A l.length c) l.length (dots l) ∧ Kept (fun _ => False) w w'

end Go.Proofs.Ytnlklhlnnoihiaa
