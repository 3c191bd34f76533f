/- The sum of bytes, by halves of bytes and by bits: the same. No program. -/
import Derived.Test.YtoeipjhdpeibpaaGreatSPlain
import Derived.Laws.BitsAllLaws
namespace Go.Proofs.YtoeipjhdpeibpaaGreat
open Go

/-- One step of the sum. -/
def stp (s : Nat) : Nat := if s % 2 = 1 then s / 2 ^^^ 3988292384 else s / 2
def its : Nat → Nat → Nat
  | 0, s => s
  | n + 1, s => stp (its n s)
theorem stp_xor (a b : Nat) : stp (a ^^^ b) = stp a ^^^ stp b := by
  have h1 : (a ^^^ b) / 2 = a / 2 ^^^ b / 2 := Nat.xor_div_two
  have h2 : (a ^^^ b) % 2 = (a + b) % 2 := by
    have := Nat.testBit_xor a b 0
    rw [Nat.testBit_zero, Nat.testBit_zero, Nat.testBit_zero] at this
    rcases Nat.mod_two_eq_zero_or_one a with ha | ha <;> rcases Nat.mod_two_eq_zero_or_one b with hb | hb <;> rcases Nat.mod_two_eq_zero_or_one (a ^^^ b) with hc | hc <;> rw [ha, hb, hc] at this <;> first | (exact absurd this (by decide)) | (rw [hc]; omega)
  unfold stp
  rw [h1, h2]
  rcases Nat.mod_two_eq_zero_or_one a with ha | ha <;> rcases Nat.mod_two_eq_zero_or_one b with hb | hb
  · rw [if_neg (by omega), if_neg (by omega), if_neg (by omega)]
  · rw [if_pos (by omega), if_neg (by omega), if_pos (by omega), Nat.xor_assoc]
  · rw [if_pos (by omega), if_pos (by omega), if_neg (by omega), Nat.xor_assoc, Nat.xor_assoc, Nat.xor_comm 3988292384]
  · rw [if_neg (by omega), if_pos (by omega), if_pos (by omega)]
    generalize a / 2 = x
    generalize b / 2 = y
    rw [Nat.xor_assoc x, Nat.xor_comm 3988292384, Nat.xor_assoc y, Nat.xor_self, Nat.xor_zero]
theorem its_xor (n a b : Nat) : its n (a ^^^ b) = its n a ^^^ its n b := by
  induction n with
  | zero => rfl
  | succ n ih => show stp (its n (a ^^^ b)) = _; rw [ih, stp_xor]; rfl
theorem its_add (m n s : Nat) : its (m + n) s = its m (its n s) := by
  induction m with
  | zero => rw [Nat.zero_add]; rfl
  | succ m ih => rw [Nat.succ_add]; show stp (its (m + n) s) = _; rw [ih]; rfl
theorem its_even (n k : Nat) : its n (2 ^ n * k) = k := by
  induction n generalizing k with
  | zero => show 2 ^ 0 * k = k; omega
  | succ n ih =>
    rw [show 2 ^ (n + 1) * k = 2 ^ n * (2 * k) by rw [Nat.pow_succ, Nat.mul_assoc]]
    show stp (its n (2 ^ n * (2 * k))) = k
    rw [ih]
    unfold stp
    rw [if_neg (by omega)]
    omega
theorem split16 (s : Nat) : s = 16 * (s / 16) ^^^ s % 16 := by
  apply Nat.eq_of_testBit_eq
  intro i
  rw [Nat.testBit_xor, show 16 * (s / 16) = 2 ^ 4 * (s / 2 ^ 4) by rfl, show s % 16 = s % 2 ^ 4 by rfl, Nat.testBit_two_pow_mul, Nat.testBit_mod_two_pow, Nat.testBit_div_two_pow]
  by_cases h : i < 4
  · have h4 : ¬ i ≥ 4 := by omega
    simp [h, h4]
  · have h4 : 4 ≤ i := by omega
    rw [show i - 4 + 4 = i by omega]
    simp [h, h4]
/-- Four steps at once, by a table of sixteen. -/
theorem its_four (s : Nat) : its 4 s = s / 16 ^^^ its 4 (s % 16) := by
  have h := its_xor 4 (16 * (s / 16)) (s % 16)
  rw [← split16, show 16 * (s / 16) = 2 ^ 4 * (s / 16) by rfl, its_even] at h
  exact h
theorem stp_lt {s : Nat} (h : s < 4294967296) : stp s < 4294967296 := by
  unfold stp
  split
  · exact Nat.xor_lt_two_pow (n := 32) (show s / 2 < 2 ^ 32 by omega) (by decide)
  · omega
theorem its_lt {s : Nat} (n : Nat) (h : s < 4294967296) : its n s < 4294967296 := by
  induction n with
  | zero => exact h
  | succ n ih => exact stp_lt ih
/-- One byte. -/
def byteS (s : Nat) (b : Int) : Nat := its 8 (s ^^^ b.toNat)
theorem byteS_lt {s : Nat} {b : Int} (h : s < 4294967296) (hb : b < 256) : byteS s b < 4294967296 := its_lt 8 (Nat.xor_lt_two_pow (n := 32) h (by omega))
def sumF (l : List Int) : Nat := l.foldl byteS 4294967295
theorem sumF_lt (l : List Int) (h : isByte l) : sumF l < 4294967296 := by
  have key : ∀ (l : List Int) (s : Nat), (∀ b ∈ l, b < 256) → s < 4294967296 → l.foldl byteS s < 4294967296 := by
    intro l
    induction l with
    | nil => intro s _ hs; exact hs
    | cons a l ih => intro s h hs; exact ih _ (fun b hb => h b (by simp [hb])) (byteS_lt hs (h a (by simp)))
  exact key l _ (fun b hb => (h b hb).2) (by decide)
theorem sumF_take {l : List Int} {k : Nat} (h : k < l.length) : sumF (l.take (k + 1)) = byteS (sumF (l.take k)) l[k] := by
  unfold sumF
  rw [List.take_succ_eq_append_getElem h, List.foldl_append]
  rfl
/-- The sum of bytes. -/
def sumC (l : List Int) : Nat := 4294967295 - sumF l
theorem not_u32 (s : Nat) (h : s < 4294967296) : bits .xor .u32 4294967295 (s : Int) = ((4294967295 - s : Nat) : Int) := by
  rw [show (4294967295 : Int) = ((4294967295 : Nat) : Int) by rfl, u32_xor_nat _ _ (by decide) h]
  congr 1
  apply Nat.eq_of_testBit_eq
  intro i
  rw [Nat.testBit_xor]
  have h2 := Nat.testBit_two_pow_sub_succ (n := 32) (x := s) (show s < 2 ^ 32 by omega) i
  rw [show 2 ^ 32 - (s + 1) = 4294967295 - s by omega] at h2
  rw [h2, show 4294967295 = 2 ^ 32 - 1 by rfl, Nat.testBit_two_pow_sub_one]
  by_cases hi : i < 32
  · simp [hi]
  · have : s.testBit i = false := Nat.testBit_lt_two_pow (Nat.lt_of_lt_of_le h (show 2 ^ 32 ≤ 2 ^ i from Nat.pow_le_pow_right (by omega) (by omega)))
    simp [hi, this]
/-- A step as the program takes it. -/
theorem step_u32 (s : Nat) (h : s < 4294967296) : bits .xor .u32 ((s : Int) / 2) (bits .and .u32 (-bits .and .u32 (s : Int) 1 % 4294967296) 3988292384) = ((stp s : Nat) : Int) := by
  have h1 : bits .and .u32 (s : Int) 1 = ((s % 2 : Nat) : Int) := by
    rw [show (1 : Int) = ((1 : Nat) : Int) by rfl, u32_and_nat _ _ h (by decide), nat_mask1]
  rw [h1]
  have h3 : (s : Int) / 2 = ((s / 2 : Nat) : Int) := by omega
  rw [h3]
  unfold stp
  rcases Nat.mod_two_eq_zero_or_one s with ha | ha
  · rw [ha, if_neg (by decide), show -((0 : Nat) : Int) % 4294967296 = ((0 : Nat) : Int) by rfl, show (3988292384 : Int) = ((3988292384 : Nat) : Int) by rfl, u32_and_nat _ _ (by decide) (by decide), u32_xor_nat _ _ (by omega) (by decide)]
    simp
  · rw [ha, if_pos rfl, show -((1 : Nat) : Int) % 4294967296 = ((4294967295 : Nat) : Int) by rfl, show (3988292384 : Int) = ((3988292384 : Nat) : Int) by rfl, u32_and_nat _ _ (by decide) (by decide), u32_xor_nat _ _ (by omega) (by decide)]
    rfl
end Go.Proofs.YtoeipjhdpeibpaaGreat
