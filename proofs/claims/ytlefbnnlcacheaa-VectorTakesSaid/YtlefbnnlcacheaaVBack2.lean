/- The plain law of taking: what is taken is what would be laid. No program in sight. -/
import Derived.Test.YtlefbnnlcacheaaVBack
namespace Go.Proofs.Ytlefbnnlcacheaa

theorem take_inv (l : List Int) : ∀ (n acc v k : Nat), isByte l → takeFrom n acc l = (0, v, k) → n < k ∧ k - n ≤ l.length ∧ ∃ x, v = acc + x * 128 ^ n ∧ l.take (k - n) = enc x ∧ (n = 0 ∨ 0 < x) := by
  induction l with
  | nil => intro n acc v k _ h; rw [take_nil] at h; injection h with h; cases h
  | cons c t ih =>
    intro n acc v k hb h
    obtain ⟨hc0, hc1⟩ := hb c (by simp)
    have hbt : isByte t := fun x hx => hb x (by simp [hx])
    by_cases h1 : 128 ≤ c
    · by_cases h8 : n = 8
      · subst h8; rw [take_long h1] at h; injection h with h; cases h
      · rw [take_more' h1 h8] at h
        obtain ⟨hk, hkl, x, hv, ht, hx⟩ := ih _ _ _ _ hbt h
        have hx0 : 0 < x := by omega
        obtain ⟨y, rfl⟩ : ∃ y : Nat, c = y := ⟨c.toNat, by omega⟩
        have e1 : ((y : Int) - 128).toNat = y - 128 := by omega
        rw [e1] at hv
        refine ⟨by omega, by simp only [List.length_cons]; omega, (y - 128) + x * 128, ?_, ?_, .inr (by omega)⟩
        · rw [hv, Nat.pow_succ, Nat.add_mul, Nat.mul_assoc x, Nat.mul_comm 128 (128 ^ n)]
          omega
        · have e2 : k - n = k - (n + 1) + 1 := by omega
          rw [e2, List.take_succ_cons, ht, enc_big (show ¬ (y - 128) + x * 128 < 128 by omega)]
          have e3 : ((y - 128) + x * 128) % 128 + 128 = y := by omega
          have e4 : ((y - 128) + x * 128) / 128 = x := by omega
          rw [e3, e4]
    · by_cases h0 : c = 0 ∧ 0 < n
      · obtain ⟨rfl, hn⟩ := h0
        rw [take_zero hn] at h; injection h with h; cases h
      · rw [take_end h1 h0] at h
        injection h with _ h
        injection h with hv hk
        obtain ⟨y, rfl⟩ : ∃ y : Nat, c = y := ⟨c.toNat, by omega⟩
        subst hk hv
        refine ⟨by omega, by simp only [List.length_cons]; omega, y, by simp, ?_, by omega⟩
        have e2 : n + 1 - n = 1 := by omega
        rw [e2, enc_small (show y < 128 by omega)]
        rfl
theorem Rd.inv {s : Rd} (hb : isByte s.l) (he : s.e = 0) (hn : s.nx.e = 0) : s.l = enc s.val ++ s.nx.l ∧ isByte s.nx.l := by
  obtain ⟨l, e⟩ := s
  simp only at hb he
  subst he
  rcases ht : takeFrom 0 0 l with ⟨er, v, k⟩
  have h1 : (⟨l, 0⟩ : Rd).val = v := by simp [Rd.val, ht]
  have h2 : (⟨l, 0⟩ : Rd).nx = ⟨l.drop k, er⟩ := by simp [Rd.nx, ht]
  rw [h2] at hn
  simp only at hn
  subst hn
  obtain ⟨_, hkl, x, hv, hx, _⟩ := take_inv l 0 0 v k hb ht
  rw [h1, h2]
  simp only [Nat.sub_zero, Nat.pow_zero, Nat.mul_one, Nat.zero_add] at hx hv
  subst hv
  exact ⟨by rw [← hx]; exact (List.take_append_drop k l).symm, fun b hb' => hb b (List.mem_of_mem_drop hb')⟩
theorem takeLoop_inv : ∀ (k : Nat) (last : Int) (acc V : List Dt) (s s' : Rd), isByte s.l → s.e = 0 → takeLoop k last acc s = (0, V, s') → ∃ U, V = acc ++ U ∧ U.length = k ∧ s.l = encs (dotNums U) ++ s'.l ∧ s'.e = 0 ∧ checkFrom last U = 0 := by
  intro k
  induction k with
  | zero =>
    intro last acc V s s' _ he h
    rw [takeLoop] at h
    injection h with _ h
    injection h with h1 h2
    subst h1 h2
    exact ⟨[], by simp, rfl, by simp [dotNums, encs], he, rfl⟩
  | succ k ih =>
    intro last acc V s s' hb he h
    by_cases h1 : s.nx.e = 0
    · by_cases h2 : siteB s.val = false ∨ (s.val : Int) ≤ last
      · rw [tl2 h1 h2] at h; injection h with h; cases h
      · by_cases h3 : s.nx.nx.e = 0
        · by_cases h4 : s.nx.val < 1 ∨ 2147483647 < s.nx.val
          · rw [tl4 h1 h2 h3 h4] at h; injection h with h; cases h
          · rw [tl5 h1 h2 h3 h4] at h
            obtain ⟨i1, b1⟩ := Rd.inv hb he h1
            obtain ⟨i2, b2⟩ := Rd.inv b1 h1 h3
            obtain ⟨U, hV, hU, hl, he', hc⟩ := ih _ _ _ _ _ b2 h3 h
            refine ⟨⟨s.val, s.nx.val⟩ :: U, by rw [hV]; simp, by simp [hU], ?_, he', ?_⟩
            · rw [i1, i2, hl]
              simp [dotNums, encs]
            · simp only [checkFrom]
              rw [if_neg (fun e => h2 (.inl e)), if_neg (by omega), if_neg (fun e => h2 (.inr e))]
              exact hc
        · rw [tl3 h1 h2 h3] at h
          injection h with h
          exact absurd h h3
    · rw [tl1 h1] at h
      injection h with h
      exact absurd h h1
theorem takeLoop_len : ∀ (k : Nat) (last : Int) (acc : List Dt) (s : Rd), (takeLoop k last acc s).2.1.length ≤ acc.length + k := by
  intro k
  induction k with
  | zero => intro last acc s; simp [takeLoop]
  | succ k ih =>
    intro last acc s
    simp only [takeLoop]
    split
    · simp
    · split
      · simp
      · split
        · simp
        · split
          · simp
          · refine Nat.le_trans (ih _ _ _) ?_
            simp only [List.length_append, List.length_cons, List.length_nil]
            omega
theorem takeV_len (s : Rd) : (takeV s).2.1.length ≤ 16 := by
  unfold takeV
  split
  · simp
  · split
    · simp
    · refine Nat.le_trans (takeLoop_len _ _ _ _) ?_
      simp only [List.length_nil]
      omega
theorem takeV_inv {b : List Int} (hb : isByte b) {V : List Dt} {s : Rd} (h : takeV ⟨b, 0⟩ = (0, V, s)) : b = encs (vnums V) ++ s.l ∧ s.e = 0 ∧ checkV V = 0 ∧ V.length ≤ 16 := by
  unfold takeV at h
  by_cases h1 : (⟨b, 0⟩ : Rd).nx.e = 0
  · rw [if_neg (fun e => e h1)] at h
    by_cases h2 : 16 < (⟨b, 0⟩ : Rd).val
    · rw [if_pos h2] at h; injection h with h; cases h
    · rw [if_neg h2] at h
      obtain ⟨i1, b1⟩ := Rd.inv (s := ⟨b, 0⟩) hb rfl h1
      obtain ⟨U, hV, hU, hl, he', hc⟩ := takeLoop_inv _ _ _ _ _ _ b1 h1 h
      simp only [List.nil_append] at hV
      subst hV
      refine ⟨?_, he', hc, by omega⟩
      have : (⟨b, 0⟩ : Rd).l = b := rfl
      rw [this] at i1
      rw [i1, hl, ← hU]
      simp [vnums, encs]
  · rw [if_pos h1] at h
    injection h with h
    exact absurd h h1

theorem check_split (d : Dt) : ∀ (l : List Dt) (last : Int), checkFrom last (l ++ [d]) = 0 → checkFrom last l = 0 ∧ okDot d = true ∧ last < d.site ∧ ∀ e ∈ l, e.site < d.site := by
  intro l
  induction l with
  | nil =>
    intro last h
    simp only [List.nil_append, checkFrom] at h
    by_cases h1 : siteB d.site = false
    · rw [if_pos h1] at h; simp at h
    · rw [if_neg h1] at h
      by_cases h2 : d.seq < 1 ∨ 2147483647 < d.seq
      · rw [if_pos h2] at h; simp at h
      · rw [if_neg h2] at h
        by_cases h3 : d.site ≤ last
        · rw [if_pos h3] at h; simp at h
        · refine ⟨rfl, ?_, by omega, by simp⟩
          simp [siteB] at h1
          simp [okDot]
          omega
  | cons e l ih =>
    intro last h
    simp only [List.cons_append, checkFrom] at h ⊢
    by_cases h1 : siteB e.site = false
    · rw [if_pos h1] at h; simp at h
    · rw [if_neg h1] at h ⊢
      by_cases h2 : e.seq < 1 ∨ 2147483647 < e.seq
      · rw [if_pos h2] at h; simp at h
      · rw [if_neg h2] at h ⊢
        by_cases h3 : e.site ≤ last
        · rw [if_pos h3] at h; simp at h
        · rw [if_neg h3] at h ⊢
          obtain ⟨a, b, c, d'⟩ := ih _ h
          refine ⟨a, b, by omega, fun x hx => ?_⟩
          rcases List.mem_cons.1 hx with rfl | hx
          · exact c
          · exact d' x hx
theorem vecTo_zeros {r : List Int} {j : Nat} (h : ∀ i, j ≤ i → rg r i = 0) (m : Nat) : vecTo r (j + m) = vecTo r j := by
  induction m with
  | zero => rfl
  | succ m ih =>
    have e : vecTo r (j + m + 1) = vecTo r (j + m) := vecTo_no r (j + m) (by rw [h _ (by omega)]; omega)
    exact e.trans ih
theorem vecTo_set (r : List Int) (j : Nat) (x : Int) (hj : j < r.length) (k : Nat) (hk : k ≤ j) : vecTo (r.set j x) k = vecTo r k := by
  induction k with
  | zero => rfl
  | succ k ih =>
    simp only [vecTo]
    rw [rg_set _ _ _ _ hj, if_neg (show ¬ k = j by omega), ih (by omega)]
theorem says_zeros (V : List Dt) (j : Int) (h : ∀ e ∈ V, e.site < j) (i : Nat) (hi : j ≤ i) : rg (says V) i = 0 := by
  have : ∀ (V : List Dt) (r : List Int), Row r → (∀ e ∈ V, e.site < j) → rg (V.foldl lay r) i = rg r i := by
    intro V
    induction V with
    | nil => intro r _ _; rfl
    | cons d V ih =>
      intro r hr h
      rw [List.foldl_cons, ih _ (hr.lay d) (fun e he => h e (by simp [he])), rg_lay hr.len, if_neg]
      rintro ⟨_, e⟩
      have := h d (by simp)
      omega
  rw [says, this V row0 Row.row0 h, rg_row0]
theorem vec_says_aux (n : Nat) : ∀ V : List Dt, V.length = n → checkV V = 0 → vec (says V) = V := by
  induction n with
  | zero => intro V h _; obtain rfl := List.eq_nil_of_length_eq_zero h; decide
  | succ n ih =>
    intro V hn h
    obtain ⟨U, d, rfl⟩ : ∃ U d, V = U ++ [d] := ⟨V.dropLast, V.getLast (by intro e; rw [e] at hn; simp at hn), (List.dropLast_concat_getLast _).symm⟩
    have hU : U.length = n := by simpa using hn
    obtain ⟨hc, hd, _, hlt⟩ := check_split d U 0 h
    have ih := ih U hU hc
    have hd' : 1 ≤ d.site ∧ d.site ≤ 16 ∧ 1 ≤ d.seq ∧ d.seq ≤ 2147483647 := by simpa [okDot] using hd
    obtain ⟨site, seq⟩ := d
    simp only at hd' hlt
    obtain ⟨j, rfl⟩ : ∃ j : Nat, site = j := ⟨site.toNat, by omega⟩
    have hrow := Row.says U
    have hz : ∀ i, j ≤ i → rg (says U) i = 0 := fun i hi => says_zeros U j hlt i (by omega)
    have es : says (U ++ [⟨j, seq⟩]) = (says U).set j seq := by
      unfold says
      rw [List.foldl_append]
      show lay _ _ = _
      rw [lay_ok hd]
      simp only [Int.toNat_natCast]
      have : rg (List.foldl lay row0 U) j = 0 := hz j (Nat.le_refl _)
      rw [this]
      congr 1
      omega
    have hj : j < (says U).length := by rw [hrow.len]; omega
    have e17 : ∀ r : List Int, vec r = vecTo r (j + 1 + (16 - j)) := fun r => by unfold vec; congr 1; omega
    have hz' : ∀ i, j + 1 ≤ i → rg ((says U).set j seq) i = 0 := fun i hi => by rw [rg_set _ _ _ _ hj, if_neg (by omega)]; exact hz i (by omega)
    rw [es, e17, vecTo_zeros hz']
    have e1 : vecTo ((says U).set j seq) (j + 1) = vecTo (says U) j ++ [⟨j, seq⟩] := by
      rw [vecTo_yes _ _ (by rw [rg_set _ _ _ _ hj, if_pos rfl]; omega), vecTo_set _ _ _ hj _ (Nat.le_refl _), rg_set _ _ _ _ hj, if_pos rfl]
    rw [e1]
    have e2 : vec (says U) = vecTo (says U) j := by
      have : vec (says U) = vecTo (says U) (j + (17 - j)) := by unfold vec; congr 1; omega
      rw [this, vecTo_zeros hz]
    rw [← e2, ih]
theorem vec_says {V : List Dt} (h : checkV V = 0) : vec (says V) = V := vec_says_aux _ V rfl h
end Go.Proofs.Ytlefbnnlcacheaa
