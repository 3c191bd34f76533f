/- The walks of the reference's Covers, Merge, Least. Conditions: the Dots lie in memory as DotsAt says. -/
import Derived.Test.YtoeipjhdpeibpaaGreatVLat
namespace Go.Proofs.YtoeipjhdpeibpaaGreat
open Go.RowKit

end Go.Proofs.YtoeipjhdpeibpaaGreat
