/- FairBounds walked. No condition. -/
import Derived.Test.YtkekhnohehhljaaEAwk
namespace Go.Proofs.Ytkekhnohehhljaa
open Go Go.Shelf Go.RowKit Go.Lib Go.Sort

set_option maxRecDepth 100000 in
theorem Bounds_walk (n : Int) (w : World) : Calls Try.prog 3 #[.int .i64 n] w fun r w' => r = .returned (.bool true) ∧ Kept (fun _ => False) w w' := by
  have H1 := Lib.hid (fun W => Bound_any n W)
  have H2 := Lib.hid (fun W => RBound_any n W)
  have H3 := Lib.hid (fun W => Awake_any W)
  obtain ⟨b, hb⟩ : ∃ b, boundB n = b := ⟨_, rfl⟩
  rw [hb] at H1 H2
  have hbb : (b == b) = true := by simp
  clear hb
  go_enter Try.func3, Try.ntmps3
  go_wp2_with (fail)
  refine (H1.out _).mono ?_
  rintro r w1 ⟨rfl, rfl⟩
  go_wp2_with (fail)
  refine (H2.out _).mono ?_
  rintro r w1 ⟨rfl, rfl⟩
  go_wp2_with (fail)
  refine (H3.out _).mono ?_
  rintro r w2 ⟨rfl, hk⟩
  have HK := Lib.hid hk
  clear hk
  go_wp2_with (fail)
  go_ret
  exact ⟨rfl, HK.out⟩
end Go.Proofs.Ytkekhnohehhljaa
