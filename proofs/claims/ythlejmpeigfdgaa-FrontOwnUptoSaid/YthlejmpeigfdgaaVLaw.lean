/- The plain law of rows: order, the greater and the lesser of two, the sum; what a vector of a row says. No program in sight. -/
import Derived.Test.YthlejmpeigfdgaaVPlain
namespace Go.Proofs.Ythlejmpeigfdgaa

theorem rg_max (r s : List Int) {i : Nat} (hi : i < 17) : rg (maxR r s) i = max (rg r i) (rg s i) := by unfold maxR; rw [zipR_rg _ _ _ _ _ hi, if_pos hi]
theorem rg_min (r s : List Int) {i : Nat} (hi : i < 17) : rg (minR r s) i = min (rg r i) (rg s i) := by unfold minR; rw [zipR_rg _ _ _ _ _ hi, if_pos hi]
theorem rg_row0 (i : Nat) : rg row0 i = 0 := by
  unfold rg row0
  rw [List.getElem?_replicate]
  split <;> simp
theorem covers_iff (r s : List Int) : coversR r s = true ↔ ∀ i, i < 17 → rg s i ≤ rg r i := by
  unfold coversR
  rw [List.all_eq_true]
  constructor
  · intro h i hi
    have := h i (List.mem_range.2 hi)
    simpa using this
  · intro h i hi
    simpa using h i (List.mem_range.1 hi)
theorem lay_ok {r : List Int} {d : Dt} (h : okDot d = true) : lay r d = r.set d.site.toNat (max (rg r d.site.toNat) d.seq) := if_pos h
theorem rg_lay {r : List Int} (hr : r.length = 17) (d : Dt) (i : Nat) : rg (lay r d) i = if okDot d = true ∧ (i : Int) = d.site then max (rg r i) d.seq else rg r i := by
  unfold lay
  by_cases h : okDot d = true
  · have hd : 1 ≤ d.site ∧ d.site ≤ 16 ∧ 1 ≤ d.seq ∧ d.seq ≤ 2147483647 := by simpa [okDot] using h
    rw [if_pos h, rg_set _ _ _ _ (by omega)]
    by_cases hi : i = d.site.toNat
    · subst hi
      rw [if_pos rfl, if_pos ⟨h, by omega⟩]
    · rw [if_neg hi, if_neg (by rintro ⟨_, e⟩; omega)]
  · rw [if_neg h, if_neg (fun e => h e.1)]
theorem fold_vecTo {r : List Int} (hr : Row r) (k : Nat) (hk : k ≤ 17) : ((vecTo r k).foldl lay row0).length = 17 ∧ ∀ i, i < 17 → rg ((vecTo r k).foldl lay row0) i = if i < k then rg r i else 0 := by
  induction k with
  | zero => exact ⟨rfl, fun i _ => by rw [if_neg (by omega)]; exact rg_row0 i⟩
  | succ k ih =>
    obtain ⟨hl, ih⟩ := ih (by omega)
    unfold vecTo
    have h0 := hr.zero
    have hb := hr.bd k
    by_cases hp : 0 < rg r k
    · have hk1 : 1 ≤ k := by
        rcases Nat.eq_zero_or_pos k with rfl | h
        · omega
        · exact h
      have hok : okDot ⟨k, rg r k⟩ = true := by simp [okDot]; omega
      rw [if_pos hp, List.foldl_append]
      refine ⟨by simp [lay_ok hok, hl], fun i hi => ?_⟩
      show rg (lay _ _) i = _
      rw [rg_lay hl, ih i hi]
      by_cases hik : i = k
      · subst hik
        rw [if_pos ⟨hok, rfl⟩, if_neg (by omega), if_pos (by omega)]
        show max 0 (rg r i) = _
        omega
      · rw [if_neg (by rintro ⟨_, e⟩; simp at e; omega)]
        by_cases h1 : i < k
        · rw [if_pos h1, if_pos (by omega)]
        · rw [if_neg h1, if_neg (by omega)]
    · rw [if_neg hp]
      refine ⟨hl, fun i hi => ?_⟩
      rw [ih i hi]
      by_cases h1 : i < k
      · rw [if_pos h1, if_pos (by omega)]
      · rw [if_neg h1]
        by_cases h2 : i = k
        · subst h2
          rw [if_pos (by omega)]
          omega
        · rw [if_neg (by omega)]
theorem says_vec {r : List Int} (hr : Row r) : says (vec r) = r := by
  obtain ⟨hl, h⟩ := fold_vecTo hr 17 (Nat.le_refl _)
  exact row_ext hl hr.len fun i hi => by
    have := h i hi
    rw [if_pos hi] at this
    exact this
theorem vec_inj {r s : List Int} (hr : Row r) (hs : Row s) (h : vec r = vec s) : r = s := by rw [← says_vec hr, h, says_vec hs]

theorem check_snoc (d : Dt) (hd : okDot d = true) : ∀ (l : List Dt) (last : Int), last < d.site → (∀ e ∈ l, e.site < d.site) → checkFrom last l = 0 → checkFrom last (l ++ [d]) = 0 := by
  have hd' : 1 ≤ d.site ∧ d.site ≤ 16 ∧ 1 ≤ d.seq ∧ d.seq ≤ 2147483647 := by simpa [okDot] using hd
  have hs : siteB d.site = true := by simp [siteB]; omega
  intro l
  induction l with
  | nil =>
    intro last hl _ _
    simp only [List.nil_append, checkFrom]
    rw [if_neg (by simp [hs]), if_neg (by omega), if_neg (by omega)]
  | cons e l ih =>
    intro last hl he hc
    simp only [List.cons_append, checkFrom] at hc ⊢
    by_cases h1 : siteB e.site = false
    · rw [if_pos h1] at hc; simp at hc
    · rw [if_neg h1] at hc ⊢
      by_cases h2 : e.seq < 1 ∨ 2147483647 < e.seq
      · rw [if_pos h2] at hc; simp at hc
      · rw [if_neg h2] at hc ⊢
        by_cases h3 : e.site ≤ last
        · rw [if_pos h3] at hc; simp at hc
        · rw [if_neg h3] at hc ⊢
          exact ih e.site (he e (by simp)) (fun x hx => he x (by simp [hx])) hc
theorem vecTo_lt (r : List Int) (k : Nat) : ∀ e ∈ vecTo r k, e.site < k := by
  induction k with
  | zero => intro e he; simp [vecTo] at he
  | succ k ih =>
    intro e he
    unfold vecTo at he
    split at he
    · rcases List.mem_append.1 he with he | he
      · have := ih e he; omega
      · simp at he
        subst he
        simp
        omega
    · have := ih e he; omega
theorem check_vecTo {r : List Int} (hr : Row r) (k : Nat) (hk : k ≤ 17) : checkFrom 0 (vecTo r k) = 0 := by
  induction k with
  | zero => rfl
  | succ k ih =>
    have ih := ih (by omega)
    unfold vecTo
    have h0 := hr.zero
    have hb := hr.bd k
    by_cases hp : 0 < rg r k
    · have hk1 : 1 ≤ k := by
        rcases Nat.eq_zero_or_pos k with rfl | h
        · omega
        · exact h
      rw [if_pos hp]
      exact check_snoc ⟨k, rg r k⟩ (by simp [okDot]; omega) _ 0 (by simp; omega) (fun e he => vecTo_lt r k e he) ih
    · rw [if_neg hp]
      exact ih
theorem check_vec {r : List Int} (hr : Row r) : checkV (vec r) = 0 := check_vecTo hr 17 (Nat.le_refl _)

section
variable {a b c : List Int} (ha : Row a) (hb : Row b) (hc : Row c)
include ha in
theorem max_row0 : maxR a row0 = a := row_ext (zipR_len ..) ha.len fun i hi => by
  rw [rg_max _ _ hi, rg_row0]
  have := ha.bd i
  omega
theorem cov_max_l : coversR (maxR a b) a = true := (covers_iff _ _).2 fun i hi => by rw [rg_max _ _ hi]; omega
theorem cov_max_r : coversR (maxR a b) b = true := (covers_iff _ _).2 fun i hi => by rw [rg_max _ _ hi]; omega
theorem cov_min_l : coversR a (minR a b) = true := (covers_iff _ _).2 fun i hi => by rw [rg_min _ _ hi]; omega
theorem cov_min_r : coversR b (minR a b) = true := (covers_iff _ _).2 fun i hi => by rw [rg_min _ _ hi]; omega
theorem cov_refl : coversR a a = true := (covers_iff _ _).2 fun _ _ => Int.le_refl _
theorem cov_of_max : coversR c (maxR a b) = (coversR c a && coversR c b) := by
  rw [Bool.eq_iff_iff, Bool.and_eq_true, covers_iff, covers_iff, covers_iff]
  constructor
  · intro h
    exact ⟨fun i hi => by have := h i hi; rw [rg_max _ _ hi] at this; omega, fun i hi => by have := h i hi; rw [rg_max _ _ hi] at this; omega⟩
  · rintro ⟨h, h'⟩ i hi
    have := h i hi; have := h' i hi
    rw [rg_max _ _ hi]; omega
theorem min_of_cov : coversR (minR a b) c = (coversR a c && coversR b c) := by
  rw [Bool.eq_iff_iff, Bool.and_eq_true, covers_iff, covers_iff, covers_iff]
  constructor
  · intro h
    exact ⟨fun i hi => by have := h i hi; rw [rg_min _ _ hi] at this; omega, fun i hi => by have := h i hi; rw [rg_min _ _ hi] at this; omega⟩
  · rintro ⟨h, h'⟩ i hi
    have := h i hi; have := h' i hi
    rw [rg_min _ _ hi]; omega
theorem cov_trans (h : coversR a b = true) (h' : coversR b c = true) : coversR a c = true := by
  rw [covers_iff] at *
  intro i hi
  have := h i hi; have := h' i hi
  omega
include ha hb in
theorem cov_anti (h : coversR a b = true) (h' : coversR b a = true) : a = b := by
  rw [covers_iff] at *
  exact row_ext ha.len hb.len fun i hi => by have := h i hi; have := h' i hi; omega
theorem max_comm' : maxR a b = maxR b a := row_ext (zipR_len ..) (zipR_len ..) fun i hi => by rw [rg_max _ _ hi, rg_max _ _ hi]; omega
theorem min_comm' : minR a b = minR b a := row_ext (zipR_len ..) (zipR_len ..) fun i hi => by rw [rg_min _ _ hi, rg_min _ _ hi]; omega
theorem max_assoc' : maxR (maxR a b) c = maxR a (maxR b c) := row_ext (zipR_len ..) (zipR_len ..) fun i hi => by simp only [rg_max _ _ hi]; omega
theorem min_assoc' : minR (minR a b) c = minR a (minR b c) := row_ext (zipR_len ..) (zipR_len ..) fun i hi => by simp only [rg_min _ _ hi]; omega
theorem max_min' : maxR (minR a b) c = minR (maxR a c) (maxR b c) := row_ext (zipR_len ..) (zipR_len ..) fun i hi => by simp only [rg_min _ _ hi, rg_max _ _ hi]; omega
theorem min_max' : minR (maxR a b) c = maxR (minR a c) (minR b c) := row_ext (zipR_len ..) (zipR_len ..) fun i hi => by simp only [rg_min _ _ hi, rg_max _ _ hi]; omega
theorem sum_lat (k : Nat) (hk : k ≤ 17) : sumR (maxR a b) k + sumR (minR a b) k = sumR a k + sumR b k := by
  induction k with
  | zero => rfl
  | succ k ih =>
    have := ih (by omega)
    simp only [sumR, rg_max _ _ (show k < 17 by omega), rg_min _ _ (show k < 17 by omega)]
    omega
include ha hb in
theorem cov_same : coversR a b = decide (vec (maxR a b) = vec (maxR a row0)) := by
  rw [covers_max ha.len, Bool.eq_iff_iff, decide_eq_true_iff, decide_eq_true_iff, max_row0 ha]
  exact ⟨fun h => by rw [h], fun h => vec_inj (ha.maxR hb) ha h⟩
end
end Go.Proofs.Ythlejmpeigfdgaa
