/- The plain law of numbers and vectors taken again from their bytes. No program in sight but for the words of the Reader's state. -/
import Derived.Test.YtlefbnnlcacheaaVTake
import Derived.Test.YtlefbnnlcacheaaVLaw
namespace Go.Proofs.Ytlefbnnlcacheaa

theorem take_enc (v : Nat) : ∀ (n acc : Nat) (t : List Int), n + (enc v).length ≤ 9 → (n = 0 ∨ 0 < v) → takeFrom n acc (enc v ++ t) = (0, acc + v * 128 ^ n, n + (enc v).length) := by
  induction v using Nat.strongRecOn with
  | ind v ih =>
    intro n acc t hn h0
    by_cases h : v < 128
    · rw [enc_small h]
      rw [List.singleton_append, take_end (by omega) (by omega)]
      simp
    · rw [enc_big h] at hn ⊢
      have hp := enc_pos (v / 128)
      simp only [List.length_cons] at hn
      rw [List.cons_append, take_more' (by omega) (by omega), ih (v / 128) (by omega) (n + 1) _ t (by omega) (.inr (by omega))]
      have e1 : ((((v % 128 + 128 : Nat) : Int) - 128).toNat) = v % 128 := by omega
      have e2 : v = v % 128 + v / 128 * 128 := by omega
      rw [e1]
      simp only [Prod.mk.injEq, true_and, List.length_cons]
      refine ⟨?_, by omega⟩
      have e3 : v * 128 ^ n = v % 128 * 128 ^ n + v / 128 * 128 ^ (n + 1) := by
        rw [Nat.pow_succ]
        conv => lhs; rw [e2]
        rw [Nat.add_mul, Nat.mul_assoc (v / 128), Nat.mul_comm 128 (128 ^ n)]
      omega
theorem Rd.num {x : Nat} (hx : x ≤ 9223372036854775807) (t : List Int) : (⟨enc x ++ t, 0⟩ : Rd).val = x ∧ (⟨enc x ++ t, 0⟩ : Rd).nx = ⟨t, 0⟩ := by
  have h := take_enc x 0 0 t (by have := enc_len9 x hx; omega) (.inl rfl)
  simp only [Rd.val, Rd.nx, h, if_true]
  simp
/-- the bytes of numbers -/
def encs (m : List Nat) : List Int := m.flatMap enc
theorem encs_cons (x : Nat) (m : List Nat) : encs (x :: m) = enc x ++ encs m := by simp [encs]
theorem takeLoop_encs (V : List Dt) : ∀ (last : Int) (acc : List Dt) (t : List Int), checkFrom last V = 0 → takeLoop V.length last acc ⟨encs (dotNums V) ++ t, 0⟩ = (0, acc ++ V, ⟨t, 0⟩) := by
  induction V with
  | nil => intro last acc t _; simp [takeLoop, dotNums, encs]
  | cons d V ih =>
    intro last acc t hc
    simp only [checkFrom] at hc
    by_cases h1 : siteB d.site = false
    · rw [if_pos h1] at hc; simp at hc
    · rw [if_neg h1] at hc
      by_cases h2 : d.seq < 1 ∨ 2147483647 < d.seq
      · rw [if_pos h2] at hc; simp at hc
      · rw [if_neg h2] at hc
        by_cases h3 : d.site ≤ last
        · rw [if_pos h3] at hc; simp at hc
        · rw [if_neg h3] at hc
          have hs : 1 ≤ d.site ∧ d.site ≤ 16 := by
            have : siteB d.site = true := by simpa using h1
            simpa [siteB] using this
          obtain ⟨site, seq⟩ := d
          simp only at h1 h2 h3 hc hs
          obtain ⟨st, rfl⟩ : ∃ n : Nat, site = n := ⟨site.toNat, by omega⟩
          obtain ⟨sq, rfl⟩ : ∃ n : Nat, seq = n := ⟨seq.toNat, by omega⟩
          have e : encs (dotNums (⟨st, sq⟩ :: V)) ++ t = enc st ++ (enc sq ++ (encs (dotNums V) ++ t)) := by
            simp [dotNums, encs]
          rw [e]
          have n1 := Rd.num (x := st) (by omega) (enc sq ++ (encs (dotNums V) ++ t))
          have n2 := Rd.num (x := sq) (by omega) (encs (dotNums V) ++ t)
          simp only [List.length_cons, takeLoop, n1.1, n1.2, n2.1, n2.2]
          rw [if_neg (by simp), if_neg (by simp only [h1]; simp; omega), if_neg (by simp), if_neg (by omega), ih _ _ _ hc]
          simp
theorem takeV_encs {V : List Dt} (h : checkV V = 0) (hl : V.length ≤ 16) (t : List Int) : takeV ⟨encs (vnums V) ++ t, 0⟩ = (0, V, ⟨t, 0⟩) := by
  have e : encs (vnums V) ++ t = enc V.length ++ (encs (dotNums V) ++ t) := by simp [vnums, encs]
  rw [e]
  have n1 := Rd.num (x := V.length) (by omega) (encs (dotNums V) ++ t)
  simp only [takeV, n1.1, n1.2]
  rw [if_neg (by simp), if_neg (by omega), takeLoop_encs V 0 [] t h]
  simp
theorem vec_len {r : List Int} (h : Row r) : (vec r).length ≤ 16 := by
  have : ∀ k, k ≤ 16 → (vecTo r (k + 1)).length ≤ k := by
    intro k
    induction k with
    | zero => intro _; rw [vecTo_one h]; simp
    | succ k ih =>
      intro hk
      have := ih (by omega)
      unfold vecTo
      split
      · simp; omega
      · omega
  exact this 16 (Nat.le_refl _)
theorem isByte_app {l m : List Int} (h : isByte l) (h' : isByte m) : isByte (l ++ m) := fun b hb => (List.mem_append.1 hb).elim (h b) (h' b)
theorem encs_byte (m : List Nat) : isByte (encs m) := by
  intro b hb
  simp only [encs, List.mem_flatMap] at hb
  obtain ⟨x, _, hb⟩ := hb
  exact enc_byte x b hb
end Go.Proofs.Ytlefbnnlcacheaa
