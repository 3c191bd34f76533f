/- The walk of fair's bit: which word a pair lies in, and which bit of it. Conditions: the places are below the number of sites, at most a thousand. -/
import Derived.Test.YtkekhnohehhljaaESit
import Derived.Test.YtkekhnohehhljaaEPla
import Derived.Laws.Bits64b
namespace Go.Proofs.Ytkekhnohehhljaa
open Go Go.Shelf Go.RowKit Go.Lib Go.Sort

theorem pow_word (k : Nat) : 2 ^ (k % 64) < 18446744073709551616 := by
  have h := Nat.pow_lt_pow_right (show 1 < 2 by omega) (Nat.mod_lt k (show 0 < 64 by omega))
  exact h
theorem wrap_word (z : Nat) (h : z < 18446744073709551616) : IntKind.u64.wrap (z : Int) = (z : Int) := IntWalk.u64_in _ ⟨by omega, by omega⟩
theorem and_zero (x i : Nat) : x &&& 2 ^ i = 0 ↔ x.testBit i = false := by
  constructor
  · intro h
    have h1 : (x &&& 2 ^ i).testBit i = false := by rw [h]; simp
    rw [Nat.testBit_and, Nat.testBit_two_pow_self, Bool.and_true] at h1
    exact h1
  · intro h
    apply Nat.eq_of_testBit_eq
    intro j
    rw [Nat.testBit_and, Nat.testBit_two_pow, Nat.zero_testBit]
    by_cases e : i = j
    · subst e; rw [h]; rfl
    · simp [e]
set_option maxHeartbeats 1000000 in
theorem bit_any (g L c a b n : Nat) (w : World) (ha : a < n) (hb : b < n) (hn : n ≤ 1000) (hL : (a * n + b) / 64 < L) :
    Calls Try.prog 29 #[.slice (some ⟨g, 0, none⟩) L c, .int .i64 a, .int .i64 b, .int .i64 n] w fun r w' => r = .returned (.tuple #[.pointer (some ⟨g, (a * n + b) / 64, none⟩), .int .u64 ((2 ^ ((a * n + b) % 64) : Nat) : Int)]) ∧ w' = w := by
  have h1 : a * n ≤ 1000 * 1000 := Nat.mul_le_mul (by omega) hn
  have hm : IntKind.i64.wrap ((a : Int) * (n : Int)) = ((a * n : Nat) : Int) := by rw [← Int.natCast_mul]; exact IntWalk.i64_in _ ⟨by omega, by omega⟩
  obtain ⟨k, hk⟩ : ∃ k, a * n + b = k := ⟨_, rfl⟩
  obtain ⟨m, hmm⟩ : ∃ m, a * n = m := ⟨_, rfl⟩
  rw [hk] at hL ⊢
  rw [hmm] at hm h1
  have hk2 : (m : Int) + (b : Int) = (k : Int) := by omega
  go_enter Try.func29, Try.ntmps29
  have hw : IntKind.u64.wrap (2 ^ (k % 64)) = ((2 ^ (k % 64) : Nat) : Int) := by
    rw [show (2 : Int) ^ (k % 64) = ((2 ^ (k % 64) : Nat) : Int) by simp]
    exact wrap_word _ (pow_word k)
  have HW := Lib.hid hw
  clear hw
  go_wp2_with (fail)
  go_ret2
  rw [HW.out]
  exact ⟨rfl, rfl⟩
/-- Words of bits. -/
def wordsV (L : Nat) (ws : Nat → Nat) : Array Value := ((List.range L).map fun j => Value.int .u64 (ws j : Int)).toArray
theorem wordsV_size (L : Nat) (ws : Nat → Nat) : (wordsV L ws).size = L := by simp [wordsV]
theorem wordsV_get {L : Nat} (ws : Nat → Nat) {j : Nat} (h : j < L) : (wordsV L ws)[j]? = some (.int .u64 (ws j : Int)) := by simp [wordsV, h]
theorem wordsV_set {L : Nat} (ws : Nat → Nat) (j v : Nat) : (wordsV L ws).setIfInBounds j (.int .u64 (v : Int)) = wordsV L (fun i => if i = j then v else ws i) := by
  apply Array.ext_getElem?
  intro i
  rw [Array.getElem?_setIfInBounds, wordsV_size]
  by_cases e : j = i
  · subst e
    by_cases hj : j < L
    · rw [if_pos rfl, if_pos hj, wordsV_get _ hj, if_pos rfl]
    · rw [if_pos rfl, if_neg hj, Array.getElem?_eq_none (by rw [wordsV_size]; omega)]
  · rw [if_neg e]
    by_cases hi : i < L
    · rw [wordsV_get _ hi, wordsV_get _ hi, if_neg (Ne.symm e)]
    · rw [Array.getElem?_eq_none (by rw [wordsV_size]; omega), Array.getElem?_eq_none (by rw [wordsV_size]; omega)]
/-- The words have just these bits. -/
structure BitsOf (ws : Nat → Nat) (K : Nat → Prop) : Prop where
  lt : ∀ j, ws j < 18446744073709551616
  bit : ∀ k, (ws (k / 64)).testBit (k % 64) = true ↔ K k
theorem BitsOf.zero : BitsOf (fun _ => 0) (fun _ => False) := ⟨fun _ => by omega, fun k => by simp⟩
theorem BitsOf.test {ws : Nat → Nat} {K : Nat → Prop} (h : BitsOf ws K) (k : Nat) : (bits .and .u64 (ws (k / 64) : Int) ((2 ^ (k % 64) : Nat) : Int) = 0) ↔ ¬ K k := by
  rw [bits_and_u64_nat _ _ (h.lt _) (pow_word k), ← h.bit k, Bool.not_eq_true, ← and_zero]
  exact Int.natCast_eq_zero
theorem BitsOf.set {ws : Nat → Nat} {K : Nat → Prop} (h : BitsOf ws K) (k : Nat) : bits .or .u64 (ws (k / 64) : Int) ((2 ^ (k % 64) : Nat) : Int) = ((ws (k / 64) ||| 2 ^ (k % 64) : Nat) : Int) ∧ BitsOf (fun i => if i = k / 64 then ws (k / 64) ||| 2 ^ (k % 64) else ws i) (fun i => K i ∨ i = k) := by
  refine ⟨bits_or_u64_nat _ _ (h.lt _) (pow_word k), ⟨fun j => ?_, fun i => ?_⟩⟩
  · show (if j = k / 64 then _ else _) < _
    split
    · exact Nat.or_lt_two_pow (n := 64) (h.lt _) (pow_word k)
    · exact h.lt j
  · show (if i / 64 = k / 64 then _ else _ : Nat).testBit (i % 64) = true ↔ _
    by_cases e : i / 64 = k / 64
    · rw [if_pos e, Nat.testBit_or, Nat.testBit_two_pow, ← h.bit i, e]
      by_cases e2 : k % 64 = i % 64
      · have : i = k := by omega
        simp [e2, this]
      · have : i ≠ k := fun e3 => e2 (by rw [e3])
        simp [e2, this]
    · have : i ≠ k := fun e3 => e (by rw [e3])
      rw [if_neg e, h.bit i]
      simp [this]
end Go.Proofs.Ytkekhnohehhljaa
