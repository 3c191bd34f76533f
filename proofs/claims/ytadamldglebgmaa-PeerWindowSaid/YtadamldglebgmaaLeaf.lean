/- The walks of the law's two small loops: ints (are two lists of numbers the same?), among (does a number stand in a list?). Conditions: the slices hold the numbers that are named. -/
import Derived.Test.YtadamldglebgmaaRows
import Derived.Test.YtadamldglebgmaaBase
namespace Go.Proofs.Ytadamldglebgmaa
open Go.RowKit

set_option maxHeartbeats 400000 in
theorem ints_any (A B : Option Addr) (xs ys : List Int) (c d : Nat) (w : World) (ha : Seq w A xs) (hb : Seq w B ys) (hx : xs.length ≤ 4611686018427387904) :
    Calls Try.prog 19 #[.slice A xs.length c, .slice B ys.length d] w fun e w' => e = .returned (.bool (decide (xs = ys))) ∧ ∃ n, w' = w.drewN n := by
  by_cases hl : xs.length = ys.length
  · have hL := Lib.hid hl
    have hn : ((xs.length : Int) != (ys.length : Int)) = false := by rw [hl]; simp
    clear hl
    go_enter Try.func19, Try.ntmps19
    go_wp2
    go_loopw [5] (fun i wr => ∃ k n : Nat, k ≤ xs.length ∧ i = .int .i64 k ∧ wr = w.drewN n ∧ ∀ j (hj : j < xs.length) (hj' : j < ys.length), j < k → xs[j] = ys[j]) (fun i _ => xs.length - (intOf i).toNat)
    case atStart => exact ⟨0, 0, Nat.zero_le _, rfl, rfl, fun j _ _ h => absurd h (by omega)⟩
    case round =>
      obtain ⟨k, n, hk, rfl, rfl, heq⟩ := hrel
      have HQ := Lib.hid heq
      clear heq
      by_cases hlt : k < xs.length
      · have hlt' : k < ys.length := by have := hL.out; omega
        obtain ⟨ad, hA, hc⟩ := ha k hlt
        obtain ⟨ad', hB, hc'⟩ := hb k hlt'
        subst hA hB
        go_wp2
        go_quiet (fail)
        go_wp2
        · have hne : (xs[k] != ys[k]) = true := by assumption
          go_ret
          exact ⟨ret_bool (decide_eq_false (by rintro rfl; simp at hne)).symm, n + nq, dd _ _ _⟩
        · have he : (xs[k] != ys[k]) = false := by assumption
          go_roundw
          case rel =>
            refine ⟨k + 1, n + nq, by omega, by go_num, rfl, fun j hj hj' hjk => ?_⟩
            rcases Nat.lt_or_ge j k with h1 | h1
            · exact HQ.out j hj hj' h1
            · obtain rfl : j = k := by omega
              simpa using he
          case measure => simp [intOf]; omega
      · have hk' : k = xs.length := by omega
        have hK := Lib.hid hk'
        clear hk'
        go_wp2
        go_ret
        exact ⟨ret_bool (decide_eq_true (List.ext_getElem hL.out fun j h1 h2 => HQ.out j h1 h2 (by omega))).symm, n, rfl⟩
  · have hn : ((xs.length : Int) != (ys.length : Int)) = true := by rw [bne_iff_ne]; omega
    have hF := Lib.hid hl
    clear hl
    go_enter Try.func19, Try.ntmps19
    go_wp2
    go_ret
    exact ⟨ret_bool (decide_eq_false (by rintro rfl; exact hF.out rfl)).symm, 0, rfl⟩

set_option maxHeartbeats 400000 in
theorem among_any (A : Option Addr) (xs : List Int) (c : Nat) (n : Int) (w : World) (ha : Seq w A xs) (hx : xs.length ≤ 4611686018427387904) :
    Calls Try.prog 20 #[.slice A xs.length c, .int .i64 n] w fun e w' => e = .returned (.bool (decide (n ∈ xs))) ∧ w' = w := by
  go_enter Try.func20, Try.ntmps20
  go_wp2
  go_loop [5] (fun i => ∃ k : Nat, k ≤ xs.length ∧ i = .int .i64 k ∧ ∀ j (hj : j < xs.length), j < k → xs[j] ≠ n) (fun i => xs.length - (intOf i).toNat)
  case atStart => exact ⟨0, Nat.zero_le _, rfl, fun j _ h => absurd h (by omega)⟩
  case round =>
    obtain ⟨k, hk, rfl, heq⟩ := hrel
    have HQ := Lib.hid heq
    clear heq
    by_cases hlt : k < xs.length
    · obtain ⟨ad, hA, hc⟩ := ha k hlt
      subst hA
      go_wp2
      · have he : (xs[k] == n) = true := by assumption
        go_ret
        exact ⟨ret_bool (decide_eq_true (by have h2 := eq_of_beq he; rw [← h2]; exact List.getElem_mem hlt)).symm, rfl⟩
      · have he : (xs[k] == n) = false := by assumption
        go_round
        case rel =>
          refine ⟨k + 1, by omega, by go_num, fun j hj hjk => ?_⟩
          rcases Nat.lt_or_ge j k with h1 | h1
          · exact HQ.out j hj h1
          · obtain rfl : j = k := by omega
            simpa using he
        case measure => simp [intOf]; omega
    · have hK := Lib.hid (show k = xs.length by omega)
      go_wp2
      go_ret
      refine ⟨ret_bool (decide_eq_false fun hm => ?_).symm, rfl⟩
      obtain ⟨j, hj, he⟩ := List.getElem_of_mem hm
      exact HQ.out j hj (by have := hK.out; omega) he
end Go.Proofs.Ytadamldglebgmaa
