/- The walks of the library's slices.Index, Contains, Clone at []int. Conditions: the slice holds the numbers that are named. -/
import Derived.Test.YtadamldglebgmaaRows
import Derived.Test.YtadamldglebgmaaBase
namespace Go.Proofs.Ytadamldglebgmaa
open Go.RowKit

/-- where the first n stands, or -1 -/
def idx (n : Int) : List Int → Int
  | [] => -1
  | x :: l => if n = x then 0 else if idx n l = -1 then -1 else idx n l + 1
theorem idx_ge (n : Int) (l : List Int) : -1 ≤ idx n l := by
  induction l with
  | nil => simp [idx]
  | cons x l ih => unfold idx; split; omega; split <;> omega
theorem idx_none (n : Int) (l : List Int) (h : ∀ j (hj : j < l.length), l[j] ≠ n) : idx n l = -1 := by
  induction l with
  | nil => rfl
  | cons x l ih =>
    unfold idx
    rw [if_neg (fun e => h 0 (by simp) (by simpa using e.symm)), if_pos]
    exact ih fun j hj => h (j + 1) (by simpa using hj)
theorem idx_at (n : Int) (l : List Int) (k : Nat) (hk : k < l.length) (he : l[k] = n) (h : ∀ j (hj : j < l.length), j < k → l[j] ≠ n) : idx n l = k := by
  induction l generalizing k with
  | nil => simp at hk
  | cons x l ih =>
    unfold idx
    cases k with
    | zero => rw [if_pos (by simpa using he.symm)]; rfl
    | succ k =>
      rw [if_neg (fun e => h 0 (by simp) (by omega) (by simpa using e.symm))]
      have := ih k (by simpa using hk) (by simpa using he) fun j hj hjk => h (j + 1) (by simpa using hj) (by omega)
      rw [if_neg (by omega), this]; omega
theorem idx_mem (n : Int) (l : List Int) : (0 ≤ idx n l) ↔ n ∈ l := by
  induction l with
  | nil => simp [idx]
  | cons x l ih =>
    have hg := idx_ge n l
    unfold idx
    by_cases h1 : n = x
    · simp [h1]
    · rw [if_neg h1]
      simp only [List.mem_cons, h1, false_or]
      by_cases h2 : idx n l = -1
      · rw [if_pos h2]; rw [← ih]; omega
      · rw [if_neg h2]; rw [← ih]; omega

set_option maxHeartbeats 400000 in
theorem Index_any (A : Option Addr) (xs : List Int) (c : Nat) (n : Int) (w : World) (ha : Seq w A xs) (hx : xs.length ≤ 4611686018427387904) :
    Calls Try.prog 30 #[.slice A xs.length c, .int .i64 n] w fun e w' => e = .returned (.int .i64 (idx n xs)) ∧ w = w' := by
  go_enter Try.func30, Try.ntmps30
  go_wp2
  go_loop [5, 8] (fun _ i => ∃ k : Nat, k ≤ xs.length ∧ i = .int .i64 k ∧ ∀ j (hj : j < xs.length), j < k → xs[j] ≠ n) (fun _ i => xs.length - (intOf i).toNat)
  case atStart => exact ⟨0, Nat.zero_le _, rfl, fun j _ h => absurd h (by omega)⟩
  case round =>
    obtain ⟨k, hk, rfl, heq⟩ := hrel
    have HQ := Lib.hid heq
    clear heq
    by_cases hlt : k < xs.length
    · obtain ⟨ad, hA, hc⟩ := ha k hlt
      subst hA
      go_wp2
      · have he : (n == xs[k]) = true := by assumption
        go_ret
        exact ⟨ret_int (idx_at n xs k hlt (eq_of_beq he).symm HQ.out).symm, rfl⟩
      · have he : (n == xs[k]) = false := by assumption
        go_round
        case rel =>
          refine ⟨k + 1, by omega, by go_num, fun j hj hjk => ?_⟩
          rcases Nat.lt_or_ge j k with h1 | h1
          · exact HQ.out j hj h1
          · obtain rfl : j = k := by omega
            intro e; rw [e] at he; simp at he
        case measure => simp [intOf]; omega
    · have hK := Lib.hid (show k = xs.length by omega)
      go_wp2
      go_ret
      exact ⟨ret_int (idx_none n xs fun j hj => HQ.out j hj (by have := hK.out; omega)).symm, rfl⟩

theorem Contains_any (A : Option Addr) (xs : List Int) (c : Nat) (n : Int) (w : World) (ha : Seq w A xs) (hx : xs.length ≤ 4611686018427387904) :
    Calls Try.prog 27 #[.slice A xs.length c, .int .i64 n] w fun e w' => e = .returned (.bool (decide (n ∈ xs))) ∧ w = w' := by
  go_enter Try.func27, Try.ntmps27
  go_wp2_with (go_at_call 30; refine (Index_any _ _ _ _ _ ha hx).mono ?_; rintro e w' ⟨rfl, rfl⟩)
  go_ret
  exact ⟨ret_bool (decide_eq_decide.2 (idx_mem n xs)), rfl⟩
theorem Contains_is (A : Option Addr) (xs : List Int) (c : Nat) (n : Int) (b : Bool) (w : World) (ha : Seq w A xs) (hx : xs.length ≤ 4611686018427387904) (hb : decide (n ∈ xs) = b) :
    Calls Try.prog 27 #[.slice A xs.length c, .int .i64 n] w fun e w' => e = .returned (.bool b) ∧ w = w' := by
  subst hb
  exact Contains_any A xs c n w ha hx
end Go.Proofs.Ytadamldglebgmaa
