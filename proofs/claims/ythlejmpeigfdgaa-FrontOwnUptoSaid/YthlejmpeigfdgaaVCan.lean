/- The plain law of vectors: a list that may be a vector is the vector of what it says. No program in sight. -/
import Derived.Test.YthlejmpeigfdgaaVLaw
import Derived.Test.YthlejmpeigfdgaaVVec
namespace Go.Proofs.Ythlejmpeigfdgaa

theorem check_split (d : Dt) : ∀ (l : List Dt) (last : Int), checkFrom last (l ++ [d]) = 0 → checkFrom last l = 0 ∧ okDot d = true ∧ last < d.site ∧ ∀ e ∈ l, e.site < d.site := by
  intro l
  induction l with
  | nil =>
    intro last h
    simp only [List.nil_append, checkFrom] at h
    by_cases h1 : siteB d.site = false
    · rw [if_pos h1] at h; simp at h
    · rw [if_neg h1] at h
      by_cases h2 : d.seq < 1 ∨ 2147483647 < d.seq
      · rw [if_pos h2] at h; simp at h
      · rw [if_neg h2] at h
        by_cases h3 : d.site ≤ last
        · rw [if_pos h3] at h; simp at h
        · refine ⟨rfl, ?_, by omega, by simp⟩
          simp [siteB] at h1
          simp [okDot]
          omega
  | cons e l ih =>
    intro last h
    simp only [List.cons_append, checkFrom] at h ⊢
    by_cases h1 : siteB e.site = false
    · rw [if_pos h1] at h; simp at h
    · rw [if_neg h1] at h ⊢
      by_cases h2 : e.seq < 1 ∨ 2147483647 < e.seq
      · rw [if_pos h2] at h; simp at h
      · rw [if_neg h2] at h ⊢
        by_cases h3 : e.site ≤ last
        · rw [if_pos h3] at h; simp at h
        · rw [if_neg h3] at h ⊢
          obtain ⟨a, b, c, d'⟩ := ih _ h
          refine ⟨a, b, by omega, fun x hx => ?_⟩
          rcases List.mem_cons.1 hx with rfl | hx
          · exact c
          · exact d' x hx
theorem vecTo_zeros {r : List Int} {j : Nat} (h : ∀ i, j ≤ i → rg r i = 0) (m : Nat) : vecTo r (j + m) = vecTo r j := by
  induction m with
  | zero => rfl
  | succ m ih =>
    have e : vecTo r (j + m + 1) = vecTo r (j + m) := vecTo_no r (j + m) (by rw [h _ (by omega)]; omega)
    exact e.trans ih
theorem vecTo_set (r : List Int) (j : Nat) (x : Int) (hj : j < r.length) (k : Nat) (hk : k ≤ j) : vecTo (r.set j x) k = vecTo r k := by
  induction k with
  | zero => rfl
  | succ k ih =>
    simp only [vecTo]
    rw [rg_set _ _ _ _ hj, if_neg (show ¬ k = j by omega), ih (by omega)]
theorem says_zeros (V : List Dt) (j : Int) (h : ∀ e ∈ V, e.site < j) (i : Nat) (hi : j ≤ i) : rg (says V) i = 0 := by
  have : ∀ (V : List Dt) (r : List Int), Row r → (∀ e ∈ V, e.site < j) → rg (V.foldl lay r) i = rg r i := by
    intro V
    induction V with
    | nil => intro r _ _; rfl
    | cons d V ih =>
      intro r hr h
      rw [List.foldl_cons, ih _ (hr.lay d) (fun e he => h e (by simp [he])), rg_lay hr.len, if_neg]
      rintro ⟨_, e⟩
      have := h d (by simp)
      omega
  rw [says, this V row0 Row.row0 h, rg_row0]
theorem vec_says_aux (n : Nat) : ∀ V : List Dt, V.length = n → checkV V = 0 → vec (says V) = V := by
  induction n with
  | zero => intro V h _; obtain rfl := List.eq_nil_of_length_eq_zero h; decide
  | succ n ih =>
    intro V hn h
    obtain ⟨U, d, rfl⟩ : ∃ U d, V = U ++ [d] := ⟨V.dropLast, V.getLast (by intro e; rw [e] at hn; simp at hn), (List.dropLast_concat_getLast _).symm⟩
    have hU : U.length = n := by simpa using hn
    obtain ⟨hc, hd, _, hlt⟩ := check_split d U 0 h
    have ih := ih U hU hc
    have hd' : 1 ≤ d.site ∧ d.site ≤ 16 ∧ 1 ≤ d.seq ∧ d.seq ≤ 2147483647 := by simpa [okDot] using hd
    obtain ⟨site, seq⟩ := d
    simp only at hd' hlt
    obtain ⟨j, rfl⟩ : ∃ j : Nat, site = j := ⟨site.toNat, by omega⟩
    have hrow := Row.says U
    have hz : ∀ i, j ≤ i → rg (says U) i = 0 := fun i hi => says_zeros U j hlt i (by omega)
    have es : says (U ++ [⟨j, seq⟩]) = (says U).set j seq := by
      unfold says
      rw [List.foldl_append]
      show lay _ _ = _
      rw [lay_ok hd]
      simp only [Int.toNat_natCast]
      have : rg (List.foldl lay row0 U) j = 0 := hz j (Nat.le_refl _)
      rw [this]
      congr 1
      omega
    have hj : j < (says U).length := by rw [hrow.len]; omega
    have e17 : ∀ r : List Int, vec r = vecTo r (j + 1 + (16 - j)) := fun r => by unfold vec; congr 1; omega
    have hz' : ∀ i, j + 1 ≤ i → rg ((says U).set j seq) i = 0 := fun i hi => by rw [rg_set _ _ _ _ hj, if_neg (by omega)]; exact hz i (by omega)
    rw [es, e17, vecTo_zeros hz']
    have e1 : vecTo ((says U).set j seq) (j + 1) = vecTo (says U) j ++ [⟨j, seq⟩] := by
      rw [vecTo_yes _ _ (by rw [rg_set _ _ _ _ hj, if_pos rfl]; omega), vecTo_set _ _ _ hj _ (Nat.le_refl _), rg_set _ _ _ _ hj, if_pos rfl]
    rw [e1]
    have e2 : vec (says U) = vecTo (says U) j := by
      have : vec (says U) = vecTo (says U) (j + (17 - j)) := by unfold vec; congr 1; omega
      rw [this, vecTo_zeros hz]
    rw [← e2, ih]
theorem vec_says {V : List Dt} (h : checkV V = 0) : vec (says V) = V := vec_says_aux _ V rfl h
end Go.Proofs.Ythlejmpeigfdgaa
