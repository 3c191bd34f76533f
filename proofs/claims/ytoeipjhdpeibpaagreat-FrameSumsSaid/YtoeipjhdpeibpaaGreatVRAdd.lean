/- The walk of the reference's Add. Conditions: the Dots lie in memory as DotsAt says. -/
import Derived.Test.YtoeipjhdpeibpaaGreatVAdd
namespace Go.Proofs.YtoeipjhdpeibpaaGreat
open Go.RowKit

end Go.Proofs.YtoeipjhdpeibpaaGreat
