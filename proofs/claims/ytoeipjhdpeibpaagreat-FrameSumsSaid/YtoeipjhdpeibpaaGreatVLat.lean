/- The walks of Covers, Merge, Least. Conditions: the Dots lie in memory as DotsAt says. -/
import Derived.Test.YtoeipjhdpeibpaaGreatVArr
namespace Go.Proofs.YtoeipjhdpeibpaaGreat
open Go.RowKit

theorem with_max (A B : Option Addr) (l m : List Dt) (c d : Nat) (w : World) (hl : DotsAt w A l) (hm : DotsAt w B m) (hlen : l.length ≤ 4611686018427387904) (hlen' : m.length ≤ 4611686018427387904) :
    Calls Tryz.prog 81 #[.slice A l.length c, .slice B m.length d, .func (.func 82) #[] #[]] w (RowPost w (maxR (says l) (says m))) :=
  with_greater max (fun x y W => greater_is x y _ W (by omega)) A B l m c d w hl hm hlen hlen'
theorem FreshDots.since {w w1 : World} {l : List Dt} {e : Ending} {w2 : World} (h : FreshDots w1 l e w2) (hk : Kept (fun _ => False) w w1) : FreshDots w l e w2 := by
  obtain ⟨A, c, he, ho, hk2⟩ := h
  exact ⟨A, c, he, own_base ho hk.size, hk.trans hk2 fun _ _ e => e⟩

set_option maxRecDepth 100000 in
set_option maxHeartbeats 1600000 in
theorem Covers_any (A B : Option Addr) (l m : List Dt) (c d : Nat) (w : World) (hl : DotsAt w A l) (hm : DotsAt w B m) (hlen : l.length ≤ 4611686018427387904) (hlen' : m.length ≤ 4611686018427387904) :
    Calls Tryz.prog 64 #[.slice A l.length c, .slice B m.length d] w (BoolPost w (coversR (says l) (says m))) := by
  have HL := Lib.hid hl
  have HM := Lib.hid hm
  clear hl hm
  go_enter Tryz.func64, Tryz.ntmps64
  go_wp2_with (fail)
  refine (with_max A B l m c d _ HL.out HM.out hlen hlen').mono ?_
  rintro e w1 ⟨rfl, hk⟩
  have HK := Lib.hid hk
  clear hk
  go_wp2_with (fail)
  refine (of_any A l c _ (HL.out.fresh HK.out) hlen).mono ?_
  rintro e w2 ⟨rfl, hk⟩
  have HK2 := Lib.hid (HK.out.trans hk fun _ _ e => e)
  have heq := fun W => eql_row (maxR (says l) (says m)) (says l) (zipR_len ..) (Row.says l).len W
  have HC := Lib.hid (covers_max (s := says m) (Row.says l).len)
  clear hk
  go_wp2
  go_ret
  exact ⟨ret_bool HC.out.symm, HK2.out⟩
end Go.Proofs.YtoeipjhdpeibpaaGreat
