/- fair.Bound, the reference's Bound, and the law's awake: two sites that hear of each other. No condition. -/
import Derived.Test.YtkekhnohehhljaaEWt
namespace Go.Proofs.Ytkekhnohehhljaa
open Go Go.Shelf Go.RowKit Go.Lib Go.Sort

def ev1 : Ev := ⟨1, 2, 0, 1, 2, 1, false⟩
def ev2 : Ev := ⟨4, 2, 0, 2, 1, 2, false⟩
theorem awake_wins {W : List (Int × Int)} (h : Wins [ev1, ev2] [1, 2] 0 9 W) : W = [(0, 5)] := by
  refine Chain.unique (fun s t => Iff.rfl) (h.1 ⟨1, by simp, 2, by simp, by decide⟩) ⟨rfl, by decide, ⟨by decide, fun x hx y hy => ?_⟩, fun t ht hf => ?_, fun t ht hf => ?_⟩
  · simp only [List.mem_cons, List.not_mem_nil, or_false] at hx hy
    rcases hx with rfl | rfl <;> rcases hy with rfl | rfl
    · exact .inl rfl
    · exact .inr ⟨ev1, by simp, rfl, rfl, rfl, rfl, by decide, by decide, by decide, by decide⟩
    · exact .inr ⟨ev2, by simp, rfl, rfl, rfl, rfl, by decide, by decide, by decide, by decide⟩
    · exact .inl rfl
  · rcases hf.2 2 (by simp) 1 (by simp) with h | ⟨e, he, h1, h2, h3, h4, h5, h6, h7, h8⟩
    · exact absurd h (by decide)
    · simp only [List.mem_cons, List.not_mem_nil, or_false] at he
      rcases he with rfl | rfl
      · exact absurd h3 (by decide)
      · have h7' : (4 : Int) < t := h7
        have ht' : t < 5 := ht
        omega
  · rcases hf.2 1 (by simp) 2 (by simp) with h | ⟨e, he, h1, h2, h3, h4, h5, h6, h7, h8⟩
    · exact absurd h (by decide)
    · simp only [List.mem_cons, List.not_mem_nil, or_false] at he
      rcases he with rfl | rfl
      · exact absurd h5 (by decide)
      · exact absurd h3 (by decide)
theorem CellsAt.of_box {w : World} {g : Nat} {t : TypeId} {cs : Array Value} {xs : List Value} (h : Box w g t cs) (e : xs = cs.toList) : CellsAt w (some ⟨g, 0, none⟩) xs := by
  subst e
  intro j u hj
  exact ⟨_, rfl, by rw [add_none, h.cell j]; simpa using hj⟩
def boundB (n : Int) : Int := 2 * max 0 (min n 2147483647)
theorem bound_wrap (n : Int) : IntKind.i64.wrap (2 * max 0 (min n 2147483647)) = 2 * max 0 (min n 2147483647) := IntWalk.i64_in _ ⟨by omega, by omega⟩
theorem Bound_any (n : Int) (w : World) : Calls Try.prog 7 #[.int .i64 n] w fun r w' => r = .returned (.int .i64 (boundB n)) ∧ w' = w := by
  have hw := bound_wrap n
  go_enter Try.func7, Try.ntmps7
  go_wp2_with (fail)
  go_ret
  exact ⟨rfl, rfl⟩
theorem RBound_any (n : Int) (w : World) : Calls Try.prog 8 #[.int .i64 n] w fun r w' => r = .returned (.int .i64 (boundB n)) ∧ w' = w := by
  unfold boundB
  by_cases h1 : n < 0
  · rw [show 2 * max 0 (min n 2147483647) = 0 by omega]
    go_enter Try.func8, Try.ntmps8
    go_wp2_with (fail)
    go_ret
    exact ⟨rfl, rfl⟩
  · by_cases h2 : n > 2147483647
    · rw [show 2 * max 0 (min n 2147483647) = 4294967294 by omega]
      go_enter Try.func8, Try.ntmps8
      go_wp2_with (fail)
      go_ret
      exact ⟨rfl, rfl⟩
    · have hw : IntKind.i64.wrap (n + n) = 2 * max 0 (min n 2147483647) := by rw [IntWalk.i64_in _ ⟨by omega, by omega⟩]; omega
      go_enter Try.func8, Try.ntmps8
      go_wp2_with (fail)
      go_ret
      exact ⟨rfl, rfl⟩

set_option maxRecDepth 100000 in
set_option maxHeartbeats 2000000 in
theorem Awake_any (w : World) : Calls Try.prog 9 #[] w fun r w' => r = .returned (.bool true) ∧ Kept (fun _ => False) w w' := by
  obtain ⟨w1, h1⟩ : ∃ w1, w.alloc (.cells #[.int .i64 1, .int .i64 2, .int .i64 0, .int .i64 1, .int .i64 2, .int .i64 1, .bool false, .int .i64 4, .int .i64 2, .int .i64 0, .int .i64 2, .int .i64 1, .int .i64 2, .bool false] 35) = w1 := ⟨_, rfl⟩
  obtain ⟨w2, h2⟩ : ∃ w2, w1.alloc (.cells #[.int .i64 1, .int .i64 2] 3) = w2 := ⟨_, rfl⟩
  have b1 := Box.new w 35 #[.int .i64 1, .int .i64 2, .int .i64 0, .int .i64 1, .int .i64 2, .int .i64 1, .bool false, .int .i64 4, .int .i64 2, .int .i64 0, .int .i64 2, .int .i64 1, .int .i64 2, .bool false]
  rw [h1] at b1
  have b2 := Box.new w1 3 #[.int .i64 1, .int .i64 2]
  have b3 := b1.alloc (.cells #[.int .i64 1, .int .i64 2] 3)
  rw [h2] at b2 b3
  have hk : Kept (fun _ => False) w w2 := by rw [← h2, ← h1]; exact ((Kept.refl _ _).alloc _).alloc _
  have HC := Lib.hid (Windows_any (some ⟨w.heap.size, 0, none⟩) (some ⟨w1.heap.size, 0, none⟩) [ev1, ev2] [1, 2] 2 2 0 9 w2 (CellsAt.of_box b3 rfl) (CellsAt.of_box b2 rfl) (by decide) (by decide) (by decide))
  have HK := Lib.hid hk
  have HB := Lib.hid (fun W => Bound_any 3 W)
  have e1 : w1.heap.size = w.heap.size + 1 := by rw [← h1]; simp
  have HW := Lib.hid (show (w.alloc (.cells #[.int .i64 1, .int .i64 2, .int .i64 0, .int .i64 1, .int .i64 2, .int .i64 1, .bool false, .int .i64 4, .int .i64 2, .int .i64 0, .int .i64 2, .int .i64 1, .int .i64 2, .bool false] 35)).alloc (.cells #[.int .i64 1, .int .i64 2] 3) = w2 by rw [h1, h2])
  rw [e1] at HC
  clear h1 h2 b1 b2 b3 hk e1
  go_enter Try.func9, Try.ntmps9
  go_wp2_with (fail)
  rw [HW.out]
  refine HC.out.mono ?_
  rintro r w3 ⟨W, A, c, rfl, hw, -, ho, hk3⟩
  obtain rfl := awake_wins hw
  obtain ⟨b, f, rfl, hc⟩ := wcs_cell (CellsAt.of_own ho) (by decide)
  obtain ⟨z1, z2⟩ := hc 0 (by decide)
  have x1 : w3.cell? ⟨b, f, none⟩ = some (.int .i64 0) := by simpa using z1
  have x2 : w3.cell? ⟨b, f + 1, none⟩ = some (.int .i64 5) := by simpa using z2
  have aW := Try.isAgg31
  have zW := Try.sizeOf31
  have hbd : boundB 3 = 6 := by decide
  have HK3 := Lib.hid (HK.out.trans hk3 fun _ _ e => e)
  clear hc ho hk3 hw HC HK HW z1 z2
  go_wp2_with (fail)
  refine (HB.out _).mono ?_
  rintro r w4 ⟨rfl, rfl⟩
  go_wp2_with (fail)
  go_ret
  exact ⟨rfl, HK3.out⟩
end Go.Proofs.Ytkekhnohehhljaa
