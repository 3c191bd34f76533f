/- The walk of slices' rotate at events. Conditions: the row of events is one of the sort's. -/
import Derived.Test.YtkekhnohehhljaaESwp
namespace Go.Proofs.Ytkekhnohehhljaa
open Go Go.Shelf Go.RowKit Go.Lib Go.Sort

theorem swapRange_int {w0 W : World} {blk N : Nat} {dk d0 : Array Ev} (h : Sw w0 blk dk W) (T : Srt w0 blk d0) (hs : dk.size = d0.size) (hN : dk.size = N) (cap : Nat) {x y n : Nat} (x' y' n' : Int) (hx : x' = x) (hy : y' = y) (hn : n' = n) (h1 : x + n ≤ y) (h2 : y + n ≤ N) :
    Calls Try.prog 51 #[.slice (some ⟨blk, 0, none⟩) N cap, .int .i64 x', .int .i64 y', .int .i64 n', .func (.func 19) #[] #[]] W (SwPost w0 blk (swR dk x y n)) := by
  subst hx hy hn hN
  exact swapRange_any h T hs cap x y n h1 h2
def RotPost (w0 : World) (blk : Nat) (dk : Array Ev) (m i j : Nat) (e : Ending) (w' : World) : Prop := e = .returned (.tuple #[]) ∧ ∃ d', RotS dk m i j d' ∧ Sw w0 blk d' w'
set_option maxRecDepth 100000 in
set_option maxHeartbeats 3200000 in
theorem rotate_any {w0 W : World} {blk N : Nat} {dk d0 : Array Ev} (h : Sw w0 blk dk W) (T : Srt w0 blk d0) (hs : dk.size = d0.size) (hN : dk.size = N) (cap a m b : Nat) (h1 : a < m) (h2 : m < b) (h3 : b ≤ N) :
    Calls Try.prog 49 #[.slice (some ⟨blk, 0, none⟩) N cap, .int .i64 a, .int .i64 m, .int .i64 b, .func (.func 19) #[] #[]] W (RotPost w0 blk dk m (m - a) (b - m)) := by
  have HS := Lib.hid h
  have HT := Lib.hid T
  have hsz := T.sz
  rw [← hs, hN] at hsz
  have HE := Lib.hid (show N = d0.size by rw [← hN, hs])
  have HN := Lib.hid hN
  have hi0 : IntKind.i64.wrap ((m : Int) - (a : Int)) = (m : Int) - (a : Int) := IntWalk.i64_in _ ⟨by omega, by omega⟩
  have hj0 : IntKind.i64.wrap ((b : Int) - (m : Int)) = (b : Int) - (m : Int) := IntWalk.i64_in _ ⟨by omega, by omega⟩
  obtain ⟨i0, hi⟩ : ∃ i0 : Nat, m - a = i0 := ⟨_, rfl⟩
  obtain ⟨j0, hj⟩ : ∃ j0 : Nat, b - m = j0 := ⟨_, rfl⟩
  have HI := Lib.hid hi
  have HJ := Lib.hid hj
  rw [hi, hj]
  clear h T hs hN hi hj
  go_enter Try.func49, Try.ntmps49
  go_wp2_with (fail)
  go_loopw [10, 11] (fun vi vj wr => ∃ (i j : Nat) (d1 : Array Ev), vi = .int .i64 i ∧ vj = .int .i64 j ∧ 0 < i ∧ 0 < j ∧ i ≤ m ∧ m + j ≤ N ∧ d1.size = N ∧ (∀ T', RotS d1 m i j T' → RotS dk m i0 j0 T') ∧ Sw w0 blk d1 wr) (fun vi vj _ => (intOf vi + intOf vj).toNat)
  case atStart =>
    have e1 := HI.out
    have e2 := HJ.out
    exact ⟨i0, j0, dk, by congr 1; omega, by congr 1; omega, by omega, by omega, by omega, by omega, HN.out, fun _ h => h, HS.out⟩
  case round =>
    obtain ⟨i, j, d1, rfl, rfl, hi, hj, him, hjm, hd, hrot, hsw⟩ := hrel
    have HD := Lib.hid hd
    have HRO := Lib.hid hrot
    have HW := Lib.hid hsw
    clear hd hrot hsw HI HJ HS hi0 hj0
    have w1 : IntKind.i64.wrap ((m : Int) - (i : Int)) = (m : Int) - (i : Int) := IntWalk.i64_in _ ⟨by omega, by omega⟩
    have w2 : IntKind.i64.wrap ((i : Int) - (j : Int)) = (i : Int) - (j : Int) := IntWalk.i64_in _ ⟨by omega, by omega⟩
    have w3 : IntKind.i64.wrap ((m : Int) + (j : Int)) = (m : Int) + (j : Int) := IntWalk.i64_in _ ⟨by omega, by omega⟩
    have w4 : IntKind.i64.wrap ((m : Int) + (j : Int) - (i : Int)) = (m : Int) + (j : Int) - (i : Int) := IntWalk.i64_in _ ⟨by omega, by omega⟩
    have w5 : IntKind.i64.wrap ((j : Int) - (i : Int)) = (j : Int) - (i : Int) := IntWalk.i64_in _ ⟨by omega, by omega⟩
    rcases Nat.lt_trichotomy i j with hlt | heq | hgt
    · as_aux_lemma =>
      have e1 : ((i : Int) != (j : Int)) = true := by simp; omega
      have e2 : ¬ (j : Int) < (i : Int) := by omega
      go_wp2_with (fail)
      refine (swapRange_int HW.out HT.out (by rw [HD.out, HE.out]) HD.out cap (x := m - i) (y := m + j - i) (n := i) _ _ _ (by omega) (by omega) rfl (by omega) (by omega)).mono ?_
      rintro r wq ⟨rfl, hq⟩
      have HQ := Lib.hid hq
      clear hq
      go_wp2_with (fail)
      go_roundw
      case rel => exact ⟨i, j - i, _, rfl, by congr 1; omega, hi, by omega, him, by omega, by rw [swR_size]; exact HD.out, fun T' hT' => HRO.out T' (hT'.less him (by rw [HD.out]; omega) hlt), HQ.out⟩
      case measure => simp [intOf]; omega
    · as_aux_lemma =>
      subst heq
      have e1 : ((i : Int) != (i : Int)) = false := by simp
      go_wp2_with (fail)
      refine (swapRange_int HW.out HT.out (by rw [HD.out, HE.out]) HD.out cap (x := m - i) (y := m) (n := i) _ _ _ (by omega) rfl rfl (by omega) (by omega)).mono ?_
      rintro r wq ⟨rfl, hq⟩
      have HQ := Lib.hid hq
      clear hq
      go_wp2_with (fail)
      go_end0
      exact ⟨rfl, _, HRO.out _ (RotS.last him (by rw [HD.out]; omega)), HQ.out⟩
    · as_aux_lemma =>
      have e1 : ((i : Int) != (j : Int)) = true := by simp; omega
      have e2 : (j : Int) < (i : Int) := by omega
      go_wp2_with (fail)
      refine (swapRange_int HW.out HT.out (by rw [HD.out, HE.out]) HD.out cap (x := m - i) (y := m) (n := j) _ _ _ (by omega) rfl rfl (by omega) (by omega)).mono ?_
      rintro r wq ⟨rfl, hq⟩
      have HQ := Lib.hid hq
      clear hq
      go_wp2_with (fail)
      go_roundw
      case rel => exact ⟨i - j, j, _, by congr 1; omega, rfl, by omega, hj, by omega, hjm, by rw [swR_size]; exact HD.out, fun T' hT' => HRO.out T' (hT'.more him (by rw [HD.out]; omega) hgt), HQ.out⟩
      case measure => simp [intOf]; omega
end Go.Proofs.Ytkekhnohehhljaa
