/- The walks of the reference's Sum and of both Checks. Conditions: the Dots lie in memory as DotsAt says. -/
import Derived.Test.YtoeipjhdpeibpaaGreatVGet
namespace Go.Proofs.YtoeipjhdpeibpaaGreat
open Go.RowKit

theorem zero_row (w : World) (T : TypeId) : Box (w.alloc (.cells #[.int .i64 0, .int .i64 0, .int .i64 0, .int .i64 0, .int .i64 0, .int .i64 0, .int .i64 0, .int .i64 0, .int .i64 0, .int .i64 0, .int .i64 0, .int .i64 0, .int .i64 0, .int .i64 0, .int .i64 0, .int .i64 0, .int .i64 0] T)) w.heap.size T (rowV row0) := Box.new w T (rowV row0)
theorem Kept.fresh_set {w w1 w2 : World} {o : Obj} (h : Kept (fun _ => False) w w1) (hk : Kept (fun k => k = w1.heap.size) (w1.alloc o) w2) : Kept (fun _ => False) w w2 :=
  (h.alloc o).trans hk fun j hj e => by have := h.size; omega

end Go.Proofs.YtoeipjhdpeibpaaGreat
