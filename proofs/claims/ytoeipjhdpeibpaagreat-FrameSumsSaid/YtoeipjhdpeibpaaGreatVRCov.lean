/- The walk of the reference's Covers. Conditions: the Dots lie in memory as DotsAt says. -/
import Derived.Test.YtoeipjhdpeibpaaGreatVRLat
namespace Go.Proofs.YtoeipjhdpeibpaaGreat
open Go.RowKit

end Go.Proofs.YtoeipjhdpeibpaaGreat
