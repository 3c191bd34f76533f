/- The walk of the reference's Check. Conditions: the Dots lie in memory as DotsAt says. -/
import Derived.Test.YtoeipjhdpeibpaaGreatVCheck
namespace Go.Proofs.YtoeipjhdpeibpaaGreat
open Go.RowKit

theorem cf_site {z : Int} {d : Dt} {l : List Dt} (h : siteB d.site = false) : checkFrom z (d :: l) = 1 := by rw [checkFrom, if_pos h]
theorem cf_seq {z : Int} {d : Dt} {l : List Dt} (h : siteB d.site = true) (h1 : d.seq < 1 ∨ 2147483647 < d.seq) : checkFrom z (d :: l) = 6 := by rw [checkFrom, if_neg (by rw [h]; decide), if_pos h1]
theorem cf_order {z : Int} {d : Dt} {l : List Dt} (h : siteB d.site = true) (h1 : ¬(d.seq < 1 ∨ 2147483647 < d.seq)) (h2 : d.site ≤ z) : checkFrom z (d :: l) = 9 := by rw [checkFrom, if_neg (by rw [h]; decide), if_neg h1, if_pos h2]
theorem cf_next {z : Int} {d : Dt} {l : List Dt} (h : siteB d.site = true) (h1 : ¬(d.seq < 1 ∨ 2147483647 < d.seq)) (h2 : ¬ d.site ≤ z) : checkFrom z (d :: l) = checkFrom d.site l := by rw [checkFrom, if_neg (by rw [h]; decide), if_neg h1, if_neg h2]

end Go.Proofs.YtoeipjhdpeibpaaGreat
