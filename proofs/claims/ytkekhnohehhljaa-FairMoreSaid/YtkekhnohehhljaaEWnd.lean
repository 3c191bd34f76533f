/- The walk of fair.windows: where it lays its variables. No condition. -/
import Derived.Test.YtkekhnohehhljaaEWin
namespace Go.Proofs.Ytkekhnohehhljaa
open Go Go.Shelf Go.RowKit Go.Lib Go.Sort

set_option maxRecDepth 100000 in
set_option maxHeartbeats 1600000 in
theorem windows_any (AE : Option Addr) (nE cE : Nat) (AS : Option Addr) (nS cS : Nat) (s t : Int) (w : World) : Calls Try.prog 22 #[.slice AE nE cE, .slice AS nS cS, .int .i64 s, .int .i64 t] w fun r w' =>
    r = .returned (.func (.func 27) #[] #[.pointer (some ⟨w.heap.size + 2, 0, none⟩), .pointer (some ⟨w.heap.size + 3, 0, none⟩), .pointer (some ⟨w.heap.size + 1, 0, none⟩), .pointer (some ⟨w.heap.size, 0, none⟩)]) ∧
      Box w' w.heap.size 25 #[.slice AE nE cE] ∧ Box w' (w.heap.size + 1) 26 #[.slice AS nS cS] ∧ Box w' (w.heap.size + 2) 3 #[.int .i64 s] ∧ Box w' (w.heap.size + 3) 3 #[.int .i64 t] ∧ Kept (fun _ => False) w w' ∧ w'.heap.size = w.heap.size + 4 := by
  have hmf : ∀ (fn : Fn) (first cap : Array Value) (w : World), (Instr.makeFunc fn first cap).run Try.prog w = .ok (.func fn first cap) w := fun _ _ _ _ => rfl
  obtain ⟨w1, h1⟩ : ∃ w1, w.alloc (.cells #[.slice AE nE cE] 25) = w1 := ⟨_, rfl⟩
  obtain ⟨w2, h2⟩ : ∃ w2, w1.alloc (.cells #[.slice AS nS cS] 26) = w2 := ⟨_, rfl⟩
  obtain ⟨w3, h3⟩ : ∃ w3, w2.alloc (.cells #[.int .i64 s] 3) = w3 := ⟨_, rfl⟩
  obtain ⟨w4, h4⟩ : ∃ w4, w3.alloc (.cells #[.int .i64 t] 3) = w4 := ⟨_, rfl⟩
  have s1 : w1.heap.size = w.heap.size + 1 := by rw [← h1]; simp
  have s2 : w2.heap.size = w.heap.size + 2 := by rw [← h2]; simp [s1]
  have s3 : w3.heap.size = w.heap.size + 3 := by rw [← h3]; simp [s2]
  have s4 : w4.heap.size = w.heap.size + 4 := by rw [← h4]; simp [s3]
  have b1 : Box w1 w.heap.size 25 #[.slice AE nE cE] := by rw [← h1]; exact Box.new _ _ _
  have b2 : Box w2 (w.heap.size + 1) 26 #[.slice AS nS cS] := by rw [← h2, ← s1]; exact Box.new _ _ _
  have b3 : Box w3 (w.heap.size + 2) 3 #[.int .i64 s] := by rw [← h3, ← s2]; exact Box.new _ _ _
  have b4 : Box w4 (w.heap.size + 3) 3 #[.int .i64 t] := by rw [← h4, ← s3]; exact Box.new _ _ _
  have k1 : Kept (fun _ => False) w w4 := by rw [← h4, ← h3, ← h2, ← h1]; exact ((((Kept.refl _ _).alloc _).alloc _).alloc _).alloc _
  have HB := Lib.hid (show Box w4 w.heap.size 25 #[.slice AE nE cE] ∧ Box w4 (w.heap.size + 1) 26 #[.slice AS nS cS] ∧ Box w4 (w.heap.size + 2) 3 #[.int .i64 s] ∧ Box w4 (w.heap.size + 3) 3 #[.int .i64 t] ∧ Kept (fun _ => False) w w4 ∧ w4.heap.size = w.heap.size + 4 from
    ⟨by rw [← h4, ← h3, ← h2]; exact ((b1.alloc _).alloc _).alloc _, by rw [← h4, ← h3]; exact (b2.alloc _).alloc _, by rw [← h4]; exact b3.alloc _, b4, k1, s4⟩)
  have HW := Lib.hid (show (((w.alloc (.cells #[.slice AE nE cE] 25)).alloc (.cells #[.slice AS nS cS] 26)).alloc (.cells #[.int .i64 s] 3)).alloc (.cells #[.int .i64 t] 3) = w4 by rw [h1, h2, h3, h4])
  clear h1 h2 h3 h4 s1 s2 s3 s4 b1 b2 b3 b4 k1
  go_enter Try.func22, Try.ntmps22
  go_wp2_with (fail)
  go_ret
  rw [HW.out]
  exact ⟨rfl, HB.out⟩
end Go.Proofs.Ytkekhnohehhljaa
