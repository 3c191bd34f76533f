/- The plain law of numbers as bytes: seven bits a byte, the lowest first; no program in sight. -/
namespace Go.Proofs.YtoeipjhdpeibpaaGreat

/-- the bytes of a number -/
def enc (v : Nat) : List Int := if v < 128 then [(v : Int)] else ((v % 128 + 128 : Nat) : Int) :: enc (v / 128)
decreasing_by omega
theorem enc_small {v : Nat} (h : v < 128) : enc v = [(v : Int)] := by rw [enc, if_pos h]
theorem enc_big {v : Nat} (h : ¬ v < 128) : enc v = ((v % 128 + 128 : Nat) : Int) :: enc (v / 128) := by rw [enc, if_neg h]
def wrB (l : List Int) (e v : Int) : List Int := if e ≠ 0 then l else if v < 0 then l else l ++ enc v.toNat
def wrE (e v : Int) : Int := if e ≠ 0 then e else if v < 0 then 1 else 0
theorem wr_err {l : List Int} {e v : Int} (h : e ≠ 0) : wrB l e v = l ∧ wrE e v = e := ⟨if_pos h, if_pos h⟩
theorem wr_neg {l : List Int} {v : Int} (h : v < 0) : wrB l 0 v = l ∧ wrE 0 v = 1 := ⟨by rw [wrB, if_neg (by decide), if_pos h], by rw [wrE, if_neg (by decide), if_pos h]⟩
theorem wr_ok {l : List Int} {v : Nat} : wrB l 0 v = l ++ enc v ∧ wrE 0 v = 0 := ⟨by rw [wrB, if_neg (by decide), if_neg (by omega)]; rfl, by rw [wrE, if_neg (by decide), if_neg (by omega)]⟩

theorem enc_pos (v : Nat) : 0 < (enc v).length := by
  by_cases h : v < 128
  · rw [enc_small h]; simp
  · rw [enc_big h]; simp
theorem enc_len (n : Nat) : ∀ v : Nat, v < 128 ^ (n + 1) → (enc v).length ≤ n + 1 := by
  induction n with
  | zero => intro v h; rw [enc_small (by simpa using h)]; simp
  | succ n ih =>
    intro v h
    by_cases h1 : v < 128
    · rw [enc_small h1]; simp
    · rw [enc_big h1]
      have := ih (v / 128) (by rw [Nat.div_lt_iff_lt_mul (by decide)]; rwa [Nat.pow_succ] at h)
      simp only [List.length_cons]
      omega
def isByte (l : List Int) : Prop := ∀ b ∈ l, 0 ≤ b ∧ b < 256
theorem enc_byte (v : Nat) : isByte (enc v) := by
  induction v using Nat.strongRecOn with
  | ind v ih =>
    by_cases h : v < 128
    · rw [enc_small h]
      intro b hb
      simp at hb
      omega
    · rw [enc_big h]
      intro b hb
      rcases List.mem_cons.1 hb with rfl | hb
      · omega
      · exact ih (v / 128) (by omega) b hb

/-- a number taken: from place n of a row, v so far: the error, the number, how many bytes it took -/
def takeFrom (n v : Nat) : List Int → Int × Nat × Nat
  | [] => (5, 0, 0)
  | c :: t => if 128 ≤ c then (if n = 8 then (6, 0, 0) else takeFrom (n + 1) (v + (c - 128).toNat * 128 ^ n) t) else if c = 0 ∧ 0 < n then (6, 0, 0) else (0, v + c.toNat * 128 ^ n, n + 1)
end Go.Proofs.YtoeipjhdpeibpaaGreat
