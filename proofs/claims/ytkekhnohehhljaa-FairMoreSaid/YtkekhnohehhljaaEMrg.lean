/- The plain law of merging in place: swaps of stretches, rotations, the symmetric merge. No program in sight. -/
import Derived.Sort.LotA
namespace Go.Proofs.Ytkekhnohehhljaa
open Go.Sort

section
variable {α : Type} [Inhabited α]
/-- n pairs of places exchanged: x + i with y + i. -/
def swR (d : Array α) (x y : Nat) : Nat → Array α
  | 0 => d
  | n + 1 => swp (swR d x y n) (x + n) (y + n)
theorem swR_size (d : Array α) (x y : Nat) : ∀ n, (swR d x y n).size = d.size
  | 0 => rfl
  | n + 1 => by unfold swR; rw [size_swp, swR_size d x y n]
theorem swR_get (d : Array α) {x y : Nat} : ∀ n, x + n ≤ y → y + n ≤ d.size → ∀ k, (swR d x y n)[k]! = if x ≤ k ∧ k < x + n then d[k - x + y]! else if y ≤ k ∧ k < y + n then d[k - y + x]! else d[k]!
  | 0, _, _, k => by rw [if_neg (by omega), if_neg (by omega)]; rfl
  | n + 1, h1, h2, k => by
    have ih := swR_get d n (x := x) (y := y) (by omega) (by omega)
    unfold swR
    by_cases e1 : k = x + n
    · subst e1
      rw [swp_left _ _ _ (by rw [swR_size]; omega) (by omega), ih, if_neg (by omega), if_neg (by omega), if_pos (by omega)]
      congr 1; omega
    · by_cases e2 : k = y + n
      · subst e2
        rw [swp_right _ _ _ (by rw [swR_size]; omega), ih, if_neg (by omega), if_neg (by omega), if_neg (by omega), if_pos (by omega)]
        congr 1; omega
      · rw [swp_other _ _ _ _ e1 e2, ih]
        by_cases c1 : x ≤ k ∧ k < x + n
        · rw [if_pos c1, if_pos (by omega)]
        · rw [if_neg c1, if_neg (c := x ≤ k ∧ k < x + (n + 1)) (by omega)]
          by_cases c2 : y ≤ k ∧ k < y + n
          · rw [if_pos c2, if_pos (by omega)]
          · rw [if_neg c2, if_neg (by omega)]
theorem swR_perm (d : Array α) {x y a b : Nat} : ∀ n, a ≤ x → x + n ≤ y → y + n ≤ b → b ≤ d.size → PermIn a b d (swR d x y n)
  | 0, _, _, _, _ => permIn_refl _ _ _
  | n + 1, h1, h2, h3, h4 => permIn_trans _ _ _ _ _ (swR_perm d n h1 (by omega) (by omega) h4) (swp_permIn _ _ _ _ _ (by omega) (by omega) (by omega) (by omega) (by rw [swR_size]; exact h4))
/-- The stretch of i places ahead of m and the one of j behind it have changed places. -/
def RotS (d : Array α) (m i j : Nat) (T : Array α) : Prop :=
  (∀ k, T[k]! = if m - i ≤ k ∧ k < m - i + j then d[k + i]! else if m - i + j ≤ k ∧ k < m + j then d[k - j]! else d[k]!) ∧ PermIn (m - i) (m + j) d T
theorem RotS.last {d : Array α} {m i : Nat} (h1 : i ≤ m) (h2 : m + i ≤ d.size) : RotS d m i i (swR d (m - i) m i) := by
  refine ⟨fun k => ?_, swR_perm d i (Nat.le_refl _) (by omega) (Nat.le_refl _) h2⟩
  rw [swR_get d i (by omega) (by omega)]
  by_cases c1 : m - i ≤ k ∧ k < m - i + i
  · rw [if_pos c1, if_pos c1]; congr 1; omega
  · rw [if_neg c1, if_neg c1]
    by_cases c2 : m ≤ k ∧ k < m + i
    · rw [if_pos c2, if_pos (by omega)]; congr 1; omega
    · rw [if_neg c2, if_neg (by omega)]
theorem RotS.more {d : Array α} {m i j : Nat} (h1 : i ≤ m) (h2 : m + j ≤ d.size) (h3 : j < i) {T : Array α} (h : RotS (swR d (m - i) m j) m (i - j) j T) : RotS d m i j T := by
  obtain ⟨hp, hq⟩ := h
  refine ⟨fun k => ?_, permIn_trans _ _ _ _ _ (swR_perm d j (Nat.le_refl _) (by omega) (Nat.le_refl _) h2) (permIn_mono _ _ _ _ _ _ (by omega) (Nat.le_refl _) (by rw [swR_size]; exact h2) hq)⟩
  rw [hp]
  have g := swR_get d j (x := m - i) (y := m) (by omega) (by omega)
  by_cases c1 : m - (i - j) ≤ k ∧ k < m - (i - j) + j
  · rw [if_pos c1, g, if_neg (by omega), if_pos (by omega), if_neg (by omega), if_pos (by omega)]; congr 1; omega
  · rw [if_neg c1]
    by_cases c2 : m - (i - j) + j ≤ k ∧ k < m + j
    · rw [if_pos c2, g, if_neg (by omega), if_neg (by omega), if_neg (by omega), if_pos (by omega)]
    · rw [if_neg c2, g]
      by_cases c3 : m - i ≤ k ∧ k < m - i + j
      · rw [if_pos c3, if_pos c3]; congr 1; omega
      · rw [if_neg c3, if_neg (by omega), if_neg c3, if_neg (by omega)]
theorem RotS.less {d : Array α} {m i j : Nat} (h1 : i ≤ m) (h2 : m + j ≤ d.size) (h3 : i < j) {T : Array α} (h : RotS (swR d (m - i) (m + j - i) i) m i (j - i) T) : RotS d m i j T := by
  obtain ⟨hp, hq⟩ := h
  refine ⟨fun k => ?_, permIn_trans _ _ _ _ _ (swR_perm d i (Nat.le_refl _) (by omega) (by omega) h2) (permIn_mono _ _ _ _ _ _ (Nat.le_refl _) (by omega) (by rw [swR_size]; exact h2) hq)⟩
  rw [hp]
  have g := swR_get d i (x := m - i) (y := m + j - i) (by omega) (by omega)
  by_cases c1 : m - i ≤ k ∧ k < m - i + (j - i)
  · rw [if_pos c1, g]
    by_cases c4 : m + j - i ≤ k + i
    · omega
    · rw [if_neg (by omega), if_neg (by omega), if_pos (by omega)]
  · rw [if_neg c1]
    by_cases c2 : m - i + (j - i) ≤ k ∧ k < m + (j - i)
    · rw [if_pos c2, g, if_pos (by omega)]
      by_cases c5 : k < m - i + j
      · rw [if_pos (by omega)]; congr 1; omega
      · omega
    · rw [if_neg c2, g, if_neg (by omega)]
      by_cases c3 : m + j - i ≤ k ∧ k < m + j - i + i
      · rw [if_pos c3, if_neg (by omega), if_pos (by omega)]; congr 1; omega
      · rw [if_neg c3, if_neg (by omega), if_neg (by omega)]

variable (key : α → Int)
def SortK (a b : Nat) (d : Array α) : Prop := ∀ i j, a ≤ i → i < j → j < b → key d[i]! ≤ key d[j]!
variable {key}
theorem SortK.le {a b : Nat} {d : Array α} (h : SortK key a b d) {i j : Nat} (h1 : a ≤ i) (h2 : i ≤ j) (h3 : j < b) : key d[i]! ≤ key d[j]! := by
  rcases Nat.lt_or_eq_of_le h2 with h4 | rfl
  · exact h i j h1 h4 h3
  · exact Int.le_refl _
theorem SortK.part {a b a' b' : Nat} {d : Array α} (h : SortK key a b d) (h1 : a ≤ a') (h2 : b' ≤ b) : SortK key a' b' d := fun i j e1 e2 e3 => h i j (by omega) e2 (by omega)
theorem SortK.congr {a b : Nat} {d d' : Array α} (h : SortK key a b d) (he : ∀ i, a ≤ i → i < b → d'[i]! = d[i]!) : SortK key a b d' := fun i j e1 e2 e3 => by
  rw [he i e1 (by omega), he j (by omega) e3]
  exact h i j e1 e2 e3
/-- The place a, laid in behind all that are less. -/
theorem merge_one {d T : Array α} {a b i : Nat} (h2 : SortK key (a + 1) b d) (hi : a + 1 ≤ i) (hib : i ≤ b)
    (hl : ∀ k, a + 1 ≤ k → k < i → key d[k]! < key d[a]!) (hg : ∀ k, i ≤ k → k < b → key d[a]! ≤ key d[k]!)
    (hT : ∀ k, T[k]! = if a ≤ k ∧ k < i - 1 then d[k + 1]! else if k = i - 1 then d[a]! else d[k]!) : SortK key a b T := fun p q e1 e2 e3 => by
  rw [hT, hT]
  by_cases c1 : a ≤ p ∧ p < i - 1
  · rw [if_pos c1]
    by_cases c2 : a ≤ q ∧ q < i - 1
    · rw [if_pos c2]; exact h2 _ _ (by omega) (by omega) (by omega)
    · rw [if_neg c2]
      by_cases c3 : q = i - 1
      · rw [if_pos c3]; have := hl (p + 1) (by omega) (by omega); omega
      · rw [if_neg c3]; exact h2 _ _ (by omega) (by omega) (by omega)
  · rw [if_neg c1]
    by_cases c3 : p = i - 1
    · rw [if_pos c3, if_neg (by omega), if_neg (by omega)]; exact hg q (by omega) e3
    · rw [if_neg c3, if_neg (by omega), if_neg (by omega)]; exact h2 _ _ (by omega) (by omega) (by omega)
/-- The place m, the last, laid in ahead of all that are greater. -/
theorem merge_last {d T : Array α} {a m i : Nat} (h1 : SortK key a m d) (hi : a ≤ i) (him : i ≤ m)
    (hl : ∀ k, a ≤ k → k < i → key d[k]! ≤ key d[m]!) (hg : ∀ k, i ≤ k → k < m → key d[m]! < key d[k]!)
    (hT : ∀ k, T[k]! = if i < k ∧ k ≤ m then d[k - 1]! else if k = i then d[m]! else d[k]!) : SortK key a (m + 1) T := fun p q e1 e2 e3 => by
  rw [hT, hT]
  by_cases c1 : i < p ∧ p ≤ m
  · rw [if_pos c1, if_pos (by omega)]; exact h1 _ _ (by omega) (by omega) (by omega)
  · rw [if_neg c1]
    by_cases c3 : p = i
    · rw [if_pos c3, if_pos (by omega)]
      rcases Nat.eq_or_lt_of_le (show i ≤ q - 1 by omega) with e | e
      · have := hg (q - 1) (by omega) (by omega); omega
      · have := hg (q - 1) (by omega) (by omega); omega
    · rw [if_neg c3]
      by_cases c2 : i < q ∧ q ≤ m
      · rw [if_pos c2]; exact h1.le (by omega) (by omega) (by omega)
      · rw [if_neg c2]
        by_cases c4 : q = i
        · rw [if_pos c4]; exact hl p e1 (by omega)
        · rw [if_neg c4]; exact h1 _ _ e1 e2 (by omega)
/-- Behind the rotation nothing of the first half is greater than anything of the second; its parts rise. -/
structure Half (key : α → Int) (d T : Array α) (a m b s : Nat) : Prop where
  s1 : SortK key a s T
  s2 : SortK key s ((a + b) / 2) T
  s3 : SortK key ((a + b) / 2) ((a + b) / 2 + m - s) T
  s4 : SortK key ((a + b) / 2 + m - s) b T
  half : ∀ p q, a ≤ p → p < (a + b) / 2 → (a + b) / 2 ≤ q → q < b → key T[p]! ≤ key T[q]!
  perm : PermIn a b d T
theorem half_of {d T : Array α} {a m b s s0 r0 : Nat} (ha : a < m) (hb : m < b) (hsz : b ≤ d.size) (h1 : SortK key a m d) (h2 : SortK key m b d)
    (hs0 : s0 = if (a + b) / 2 < m then (a + b) / 2 + m - b else a) (hr0 : r0 = if (a + b) / 2 < m then (a + b) / 2 else m) (hs : s0 ≤ s) (hr : s ≤ r0)
    (hl : ∀ c, s0 ≤ c → c < s → key d[c]! ≤ key d[(a + b) / 2 + m - 1 - c]!) (hg : ∀ c, s ≤ c → c < r0 → key d[(a + b) / 2 + m - 1 - c]! < key d[c]!)
    (hT : if s < m ∧ m < (a + b) / 2 + m - s then RotS d m (m - s) ((a + b) / 2 - s) T else T = d) : Half key d T a m b s := by
  have hM1 : 2 * ((a + b) / 2) ≤ a + b := by omega
  have hM2 : a + b < 2 * ((a + b) / 2) + 2 := by omega
  suffices hw : ∀ M, 2 * M ≤ a + b → a + b < 2 * M + 2 → (a + b) / 2 = M → Half key d T a m b s from hw _ hM1 hM2 rfl
  clear hM1 hM2
  intro M hM1 hM2 hM
  rw [hM] at hs0 hr0 hl hg hT
  have hsa : a ≤ s := by split at hs0 <;> omega
  have hsm : s ≤ m := by split at hr0 <;> omega
  have hsM : s ≤ M := by split at hr0 <;> omega
  have hE : M + m - s ≤ b := by split at hs0 <;> omega
  have hP : PermIn a b d T := by
    split at hT
    · exact permIn_mono _ _ _ _ _ _ (by omega) (by omega) hsz hT.2
    · rw [hT]; exact permIn_refl _ _ _
  have hp : ∀ k, T[k]! = if s ≤ k ∧ k < M then d[k + (m - s)]! else if M ≤ k ∧ k < M + m - s then d[k - (M - s)]! else d[k]! := by
    intro k
    split at hT
    · rename_i hc
      rw [hT.1]
      have e1 : m - (m - s) = s := by omega
      rw [e1]
      by_cases c1 : s ≤ k ∧ k < M
      · rw [if_pos (by omega), if_pos c1]
      · rw [if_neg (by omega), if_neg c1]
        by_cases c2 : M ≤ k ∧ k < M + m - s
        · rw [if_pos (by omega), if_pos c2]
        · rw [if_neg (by omega), if_neg c2]
    · rename_i hc
      rw [hT]
      by_cases c1 : s ≤ k ∧ k < M
      · rw [if_pos c1]; congr 1; omega
      · rw [if_neg c1]
        by_cases c2 : M ≤ k ∧ k < M + m - s
        · rw [if_pos c2]; congr 1; omega
        · rw [if_neg c2]
  refine (?_ : (SortK key a s T ∧ SortK key s M T ∧ SortK key M (M + m - s) T ∧ SortK key (M + m - s) b T ∧ ∀ p q, a ≤ p → p < M → M ≤ q → q < b → key T[p]! ≤ key T[q]!) → _) ?_
  · intro hgo
    obtain ⟨g1, g2, g3, g4, g5⟩ := hgo
    rw [← hM] at g2 g3 g4 g5
    exact ⟨g1, g2, g3, g4, g5, hP⟩
  refine ⟨h1.part (Nat.le_refl _) hsm |>.congr fun i e1 e2 => by rw [hp, if_neg (by omega), if_neg (by omega)], ?_, ?_, ?_, ?_⟩
  · intro i j e1 e2 e3
    rw [hp, hp, if_pos (by omega), if_pos (by omega)]
    exact h2 _ _ (by omega) (by omega) (by omega)
  · intro i j e1 e2 e3
    rw [hp, hp, if_neg (by omega), if_pos (by omega), if_neg (by omega), if_pos (by omega)]
    exact h1 _ _ (by omega) (by omega) (by omega)
  · intro i j e1 e2 e3
    rw [hp, hp, if_neg (by omega), if_neg (by omega), if_neg (by omega), if_neg (by omega)]
    exact h2 _ _ (by omega) (by omega) (by omega)
  · intro p q e1 e2 e3 e4
    rw [hp, hp, if_neg (c := s ≤ q ∧ q < M) (by omega)]
    by_cases c1 : s ≤ p ∧ p < M
    · rw [if_pos c1]
      have hpm : p + (m - s) < M + m - s := by omega
      by_cases c2 : M ≤ q ∧ q < M + m - s
      · rw [if_pos c2]
        -- d[m..end) against d[s..m)
        have hsr : s < r0 := by split at hr0 <;> omega
        have g := hg s (Nat.le_refl _) hsr
        have g1 : key d[p + (m - s)]! ≤ key d[M + m - 1 - s]! := h2.le (by omega) (by omega) (by omega)
        have g2 : key d[s]! ≤ key d[q - (M - s)]! := h1.le (by omega) (by omega) (by omega)
        omega
      · rw [if_neg c2]
        exact h2.le (by omega) (by omega) (by omega)
    · rw [if_neg c1, if_neg (by omega)]
      by_cases c2 : M ≤ q ∧ q < M + m - s
      · rw [if_pos c2]
        exact h1.le (by omega) (by omega) (by omega)
      · rw [if_neg c2]
        have hss : s0 < s := by split at hs0 <;> omega
        have g := hl (s - 1) (by omega) (by omega)
        have e5 : M + m - 1 - (s - 1) = M + m - s := by omega
        rw [e5] at g
        have g1 : key d[p]! ≤ key d[s - 1]! := h1.le (by omega) (by omega) (by omega)
        have g2 : key d[M + m - s]! ≤ key d[q]! := h2.le (by omega) (by omega) (by omega)
        omega
/-- Both halves sorted, each within itself: the whole is. -/
theorem Half.whole {d T U : Array α} {a m b s : Nat} (h : Half key d T a m b s) (hab : a ≤ b) (hsz : b ≤ T.size) (h1 : PermIn a ((a + b) / 2) T U) (hu1 : SortK key a ((a + b) / 2) U) {V : Array α} (h2 : PermIn ((a + b) / 2) b U V) (hv : SortK key ((a + b) / 2) b V) : PermIn a b d V ∧ SortK key a b V := by
  have hM1 : a ≤ (a + b) / 2 := by omega
  have hM2 : (a + b) / 2 ≤ b := by omega
  have hh := h.half
  have hpm := h.perm
  clear h
  generalize (a + b) / 2 = M at *
  have hUs : U.size = T.size := h1.1
  refine ⟨permIn_trans _ _ _ _ _ hpm (permIn_trans _ _ _ _ _ (permIn_mono _ _ _ _ _ _ (Nat.le_refl _) hM2 hsz h1) (permIn_mono _ _ _ _ _ _ hM1 (Nat.le_refl _) (by rw [hUs]; exact hsz) h2)), fun i j e1 e2 e3 => ?_⟩
  have lo : ∀ p, p < M → V[p]! = U[p]! := fun p hp => h2.2.1 p (.inl hp)
  by_cases c1 : j < M
  · rw [lo i (by omega), lo j c1]
    exact hu1 i j e1 e2 c1
  · by_cases c2 : M ≤ i
    · exact hv i j c2 e2 e3
    · rw [lo i (by omega)]
      -- every one of the first half of U is one of the first half of T; of the second of V one of the second of T
      have g1 : ∀ q, M ≤ q → q < b → ∀ p, a ≤ p → p < M → key U[p]! ≤ key T[q]! := fun q e4 e5 => permIn_all _ _ _ _ (fun x => key x ≤ key T[q]!) (by omega) h1 (fun p e6 e7 => hh p q e6 e7 e4 e5)
      have g2 : ∀ q, M ≤ q → q < b → key U[i]! ≤ key U[q]! := fun q e4 e5 => by
        rw [h1.2.1 q (.inr e4)]
        exact g1 q e4 e5 i e1 (by omega)
      exact permIn_all _ _ _ _ (fun x => key U[i]! ≤ key x) (by rw [hUs]; exact hsz) h2 g2 j (by omega) e3
end
end Go.Proofs.Ytkekhnohehhljaa
