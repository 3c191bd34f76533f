/- The plain law of fair windows: what makes a stretch fair; a row of windows each as short as can be; what the scan of events finds. No program in sight. -/
import Derived.Test.YtkekhnohehhljaaEEv
namespace Go.Proofs.Ytkekhnohehhljaa

def Tells (e : Ev) (x y s t : Int) : Prop := e.kind = 2 ∧ e.bad = false ∧ e.src = x ∧ e.dst = y ∧ s ≤ e.step ∧ s ≤ e.sent ∧ e.step < t ∧ e.sent < t
def Fit (es : List Ev) (ss : List Int) (s t : Int) : Prop := s < t ∧ ∀ x ∈ ss, ∀ y ∈ ss, x = y ∨ ∃ e ∈ es, Tells e x y s t
theorem Fit.mono {es es' : List Ev} {ss ss' : List Int} {s s' t t' : Int} (h : Fit es ss s t) (he : ∀ e ∈ es, e ∈ es') (hs : ∀ x ∈ ss', x ∈ ss) (h1 : s' ≤ s) (h2 : t ≤ t') : Fit es' ss' s' t' := by
  refine ⟨by have := h.1; omega, fun x hx y hy => (h.2 x (hs x hx) y (hs y hy)).imp_right fun ⟨e, h3, h4⟩ => ⟨e, he e h3, ?_⟩⟩
  obtain ⟨a1, a2, a3, a4, a5, a6, a7, a8⟩ := h4
  exact ⟨a1, a2, a3, a4, by omega, by omega, by omega, by omega⟩
/-- A row of windows from s on, each as short as can be, none left. -/
def Chain (F : Int → Int → Prop) (lim : Int) : Int → List (Int × Int) → Prop
  | s, [] => ∀ t, t ≤ lim → ¬ F s t
  | s, w :: W => w.1 = s ∧ w.2 ≤ lim ∧ F s w.2 ∧ (∀ t, t < w.2 → ¬ F s t) ∧ Chain F lim w.2 W
theorem Chain.unique {F F' : Int → Int → Prop} {lim : Int} (hF : ∀ s t, F s t ↔ F' s t) : ∀ {W W' : List (Int × Int)} {s : Int}, Chain F lim s W → Chain F' lim s W' → W = W'
  | [], [], _, _, _ => rfl
  | [], w :: W', s, h, h' => absurd ((hF _ _).2 h'.2.2.1) (h _ h'.2.1)
  | w :: W, [], s, h, h' => absurd ((hF _ _).1 h.2.2.1) (h' _ h.2.1)
  | w :: W, v :: W', s, ⟨a1, a2, a3, a4, a5⟩, ⟨b1, b2, b3, b4, b5⟩ => by
    have e : w.2 = v.2 := by
      rcases Int.lt_trichotomy w.2 v.2 with h | h | h
      · exact absurd ((hF _ _).1 a3) (b4 _ h)
      · exact h
      · exact absurd ((hF _ _).2 b3) (a4 _ h)
    have e2 : w = v := Prod.ext (by rw [a1, b1]) e
    subst e2
    rw [Chain.unique hF a5 b5]
theorem Chain.le {F F' : Int → Int → Prop} {lim lim' : Int} (hto : lim ≤ lim') (hF : ∀ s s' t t', s' ≤ s → t ≤ t' → F s t → F' s' t') : ∀ {W W' : List (Int × Int)} {s s' : Int}, s' ≤ s → Chain F lim s W → Chain F' lim' s' W' → W.length ≤ W'.length
  | [], W', _, _, _, _, _ => Nat.zero_le _
  | w :: W, [], s, s', hs, h, h' => absurd (hF _ _ _ _ hs (Int.le_refl _) h.2.2.1) (h' _ (Int.le_trans h.2.1 hto))
  | w :: W, v :: W', s, s', hs, h, h' => by
    have hv : v.2 ≤ w.2 := Int.not_lt.1 fun hlt => h'.2.2.2.1 _ hlt (hF _ _ _ _ hs (Int.le_refl _) h.2.2.1)
    exact Nat.succ_le_succ (Chain.le hto hF hv h.2.2.2.2 h'.2.2.2.2)
/-- Stretches one behind the other. -/
def Cuts (F : Int → Int → Prop) (lim : Int) : Int → List Int → Prop
  | _, [] => True
  | s, t :: l => t ≤ lim ∧ F s t ∧ Cuts F lim t l
theorem Cuts.le {F : Int → Int → Prop} {lim : Int} (hF : ∀ s s' t t', s' ≤ s → t ≤ t' → F s t → F s' t') : ∀ {l : List Int} {W : List (Int × Int)} {s s' : Int}, s' ≤ s → Cuts F lim s l → Chain F lim s' W → l.length ≤ W.length
  | [], _, _, _, _, _, _ => Nat.zero_le _
  | t :: l, [], s, s', hs, h, h' => absurd (hF _ _ _ _ hs (Int.le_refl _) h.2.1) (h' _ h.1)
  | t :: l, v :: W, s, s', hs, h, h' => by
    have hv : v.2 ≤ t := Int.not_lt.1 fun hlt => h'.2.2.2.1 _ hlt (hF _ _ _ _ hs (Int.le_refl _) h.2.1)
    exact Nat.succ_le_succ (Cuts.le hF hv h.2.2 h'.2.2.2.2)

theorem sub_len {α : Type} [DecidableEq α] : ∀ (M P : List α), M.Nodup → (∀ x ∈ M, x ∈ P) → M.length ≤ P.length ∧ (M.length = P.length → ∀ x ∈ P, x ∈ M)
  | [], P, _, _ => ⟨Nat.zero_le _, fun h x hx => by
      have := List.eq_nil_of_length_eq_zero h.symm
      subst this
      exact hx⟩
  | a :: M, P, hd, hs => by
    have hd' := List.nodup_cons.1 hd
    have ha : a ∈ P := hs a (by simp)
    obtain ⟨h1, h2⟩ := sub_len M (P.erase a) hd'.2 fun x hx => (List.mem_erase_of_ne (fun (e : x = a) => hd'.1 (by rw [← e]; exact hx))).2 (hs x (by simp [hx]))
    have hl := List.length_erase_of_mem ha
    have hp : 0 < P.length := List.length_pos_of_mem ha
    refine ⟨by simp only [List.length_cons]; omega, fun e x hx => ?_⟩
    by_cases c : x = a
    · simp [c]
    · refine List.mem_cons_of_mem _ (h2 (by simp only [List.length_cons] at e; omega) x ((List.mem_erase_of_ne c).2 hx))
/-- All pairs of unlike sites. -/
def pairsOf (ss : List Int) : List (Int × Int) := ss.flatMap fun x => (ss.erase x).map fun y => (x, y)
theorem pairs_mem {ss : List Int} (hd : ss.Nodup) (p : Int × Int) : p ∈ pairsOf ss ↔ p.1 ∈ ss ∧ p.2 ∈ ss ∧ p.1 ≠ p.2 := by
  unfold pairsOf
  rw [List.mem_flatMap]
  constructor
  · rintro ⟨x, hx, h⟩
    obtain ⟨y, hy, rfl⟩ := List.mem_map.1 h
    have := (hd.mem_erase_iff).1 hy
    exact ⟨hx, this.2, fun e => this.1 e.symm⟩
  · rintro ⟨h1, h2, h3⟩
    exact ⟨p.1, h1, List.mem_map.2 ⟨p.2, (hd.mem_erase_iff).2 ⟨fun e => h3 e.symm, h2⟩, rfl⟩⟩
theorem pairs_len (ss : List Int) : (pairsOf ss).length = ss.length * (ss.length - 1) := by
  have h : ∀ l : List Int, (∀ x ∈ l, x ∈ ss) → (l.flatMap fun x => (ss.erase x).map fun y => (x, y)).length = l.length * (ss.length - 1) := by
    intro l
    induction l with
    | nil => intro _; simp
    | cons a l ih =>
      intro hl
      rw [List.flatMap_cons, List.length_append, ih fun x hx => hl x (by simp [hx]), List.length_map, List.length_erase_of_mem (hl a (by simp)), List.length_cons, Nat.succ_mul]
      omega
  exact h ss fun x hx => hx
/-- Does an event count for a pair of sites, from s on? -/
def relB (ss : List Int) (s : Int) (e : Ev) : Bool := decide (e.kind = 2) && !e.bad && decide (s ≤ min e.step e.sent) && ss.contains e.src && ss.contains e.dst && decide (e.src ≠ e.dst)
theorem relB_iff (ss : List Int) (s : Int) (e : Ev) : relB ss s e = true ↔ e.kind = 2 ∧ e.bad = false ∧ s ≤ e.step ∧ s ≤ e.sent ∧ e.src ∈ ss ∧ e.dst ∈ ss ∧ e.src ≠ e.dst := by
  simp only [relB, Bool.and_eq_true, decide_eq_true_eq, Bool.not_eq_true', List.contains_iff_mem]
  constructor
  · rintro ⟨⟨⟨⟨⟨h1, h2⟩, h3⟩, h4⟩, h5⟩, h6⟩
    exact ⟨h1, h2, by omega, by omega, h4, h5, h6⟩
  · rintro ⟨h1, h2, h3, h3', h4, h5, h6⟩
    exact ⟨⟨⟨⟨⟨h1, h2⟩, by omega⟩, h4⟩, h5⟩, h6⟩
/-- What the scan of events finds: M are the pairs that are told since s. -/
def scan (ss : List Int) (lim : Int) : List (Int × Int) → Int → List Ev → List (Int × Int)
  | _, _, [] => []
  | M, s, e :: l =>
    if lim ≤ e.key then []
    else if relB ss s e = true ∧ (e.src, e.dst) ∉ M then
      (if M.length + 1 = ss.length * (ss.length - 1) then (s, e.key + 1) :: scan ss lim [] (e.key + 1) l else scan ss lim ((e.src, e.dst) :: M) s l)
    else scan ss lim M s l
structure Told (ss : List Int) (s : Int) (M : List (Int × Int)) (done : List Ev) : Prop where
  nodup : M.Nodup
  mem : ∀ p : Int × Int, p ∈ M ↔ p.1 ∈ ss ∧ p.2 ∈ ss ∧ p.1 ≠ p.2 ∧ ∃ e ∈ done, e.kind = 2 ∧ e.bad = false ∧ e.src = p.1 ∧ e.dst = p.2 ∧ s ≤ e.step ∧ s ≤ e.sent
  less : M.length < ss.length * (ss.length - 1)
theorem key_le (e : Ev) : e.step ≤ e.key ∧ e.sent ≤ e.key := by unfold Ev.key; omega
theorem Told.unfit {ss : List Int} {s t : Int} {M : List (Int × Int)} {done rest : List Ev} (h : Told ss s M done) (hd : ss.Nodup) (hr : ∀ e ∈ rest, t ≤ e.key) : ¬ Fit (done ++ rest) ss s t := by
  rintro ⟨h1, h2⟩
  have hsub : ∀ p ∈ pairsOf ss, p ∈ M := fun p hp => by
    obtain ⟨g1, g2, g3⟩ := (pairs_mem hd p).1 hp
    rcases h2 p.1 g1 p.2 g2 with e | ⟨e, he, a1, a2, a3, a4, a5, a6, a7, a8⟩
    · exact absurd e g3
    · refine (h.mem p).2 ⟨g1, g2, g3, e, ?_, a1, a2, a3, a4, a5, a6⟩
      rcases List.mem_append.1 he with he | he
      · exact he
      · have := hr e he
        unfold Ev.key at this
        omega
  have hpn : (pairsOf ss).Nodup := by
    have hf : ∀ l : List Int, l.Nodup → (l.flatMap fun x => (ss.erase x).map fun y => (x, y)).Nodup := by
      intro l
      induction l with
      | nil => intro _; simp
      | cons a l ih =>
        intro hl
        have hl' := List.nodup_cons.1 hl
        rw [List.flatMap_cons]
        refine List.nodup_append.2 ⟨?_, ih hl'.2, fun x hx y hy e => ?_⟩
        · exact List.pairwise_map.2 ((hd.erase a).imp fun h e => h (Prod.ext_iff.1 e).2)
        · obtain ⟨u, _, rfl⟩ := List.mem_map.1 hx
          obtain ⟨b, hb, h3⟩ := List.mem_flatMap.1 hy
          obtain ⟨v, _, rfl⟩ := List.mem_map.1 h3
          have := (Prod.ext_iff.1 e).1
          simp only at this
          exact hl'.1 (this ▸ hb)
    exact hf ss hd
  have := (sub_len (pairsOf ss) M hpn hsub).1
  rw [pairs_len] at this
  have := h.less
  omega
theorem scan_chain {ss : List Int} {lim : Int} (hd : ss.Nodup) (h2 : 2 ≤ ss.length) : ∀ (rest done : List Ev) (M : List (Int × Int)) (s : Int), (done ++ rest).Pairwise (fun x y => x.key ≤ y.key) → Told ss s M done → Chain (Fit (done ++ rest) ss) lim s (scan ss lim M s rest) := by
  have hn : 0 < ss.length * (ss.length - 1) := Nat.mul_pos (by omega) (by omega)
  intro rest
  induction rest with
  | nil => exact fun done M s _ h t _ => h.unfit hd fun e he => by cases he
  | cons e l ih =>
    intro done M s hp h
    have hsplit : done ++ e :: l = (done ++ [e]) ++ l := by simp
    have hge : ∀ x ∈ e :: l, e.key ≤ x.key := fun x hx => by
      rcases List.mem_cons.1 hx with rfl | hx
      · exact Int.le_refl _
      · exact (List.pairwise_cons.1 (List.pairwise_append.1 hp).2.1).1 x hx
    have hle : ∀ x ∈ done, x.key ≤ e.key := fun x hx => (List.pairwise_append.1 hp).2.2 x hx e (by simp)
    unfold scan
    by_cases hto : lim ≤ e.key
    · rw [if_pos hto]
      exact fun t ht => h.unfit hd fun x hx => Int.le_trans ht (Int.le_trans hto (hge x hx))
    · rw [if_neg hto]
      by_cases hr : relB ss s e = true ∧ (e.src, e.dst) ∉ M
      · rw [if_pos hr]
        obtain ⟨r1, r2, r3, r3', r4, r5, r6⟩ := (relB_iff ss s e).1 hr.1
        have hM2 : ((e.src, e.dst) :: M).Nodup := List.nodup_cons.2 ⟨hr.2, h.nodup⟩
        have hmem : ∀ p : Int × Int, p ∈ (e.src, e.dst) :: M ↔ p.1 ∈ ss ∧ p.2 ∈ ss ∧ p.1 ≠ p.2 ∧ ∃ x ∈ done ++ [e], x.kind = 2 ∧ x.bad = false ∧ x.src = p.1 ∧ x.dst = p.2 ∧ s ≤ x.step ∧ s ≤ x.sent := fun p => by
          rw [List.mem_cons, h.mem]
          constructor
          · rintro (rfl | ⟨g1, g2, g3, x, hx, g4⟩)
            · exact ⟨r4, r5, r6, e, by simp, r1, r2, rfl, rfl, r3, r3'⟩
            · exact ⟨g1, g2, g3, x, by simp [hx], g4⟩
          · rintro ⟨g1, g2, g3, x, hx, g4⟩
            rcases List.mem_append.1 hx with hx | hx
            · exact .inr ⟨g1, g2, g3, x, hx, g4⟩
            · rw [List.mem_singleton] at hx
              subst hx
              exact .inl (Prod.ext g4.2.2.1.symm g4.2.2.2.1.symm)
        by_cases hc : M.length + 1 = ss.length * (ss.length - 1)
        · rw [if_pos hc, hsplit]
          have hall := (sub_len ((e.src, e.dst) :: M) (pairsOf ss) hM2 fun p hp => (pairs_mem hd p).2 (by obtain ⟨g1, g2, g3, -⟩ := (hmem p).1 hp; exact ⟨g1, g2, g3⟩)).2 (by rw [pairs_len, ← hc]; rfl)
          refine ⟨rfl, by show e.key + 1 ≤ lim; omega, ⟨by show s < e.key + 1; have := (key_le e).1; omega, fun x hx y hy => ?_⟩, fun t ht => ?_, ?_⟩
          · by_cases hxy : x = y
            · exact .inl hxy
            · obtain ⟨-, -, -, z, hz, g1, g2, g3, g4, g5, g6⟩ := (hmem (x, y)).1 (hall (x, y) ((pairs_mem hd (x, y)).2 ⟨hx, hy, hxy⟩))
              refine .inr ⟨z, by simp only [List.mem_append] at hz ⊢; exact .inl hz, g1, g2, g3, g4, g5, g6, ?_, ?_⟩
              all_goals
                have hzk : z.key ≤ e.key := by
                  rcases List.mem_append.1 hz with hz | hz
                  · exact hle z hz
                  · rw [List.mem_singleton] at hz; rw [hz]; exact Int.le_refl _
                have := key_le z
                show _ < e.key + 1
                omega
          · rw [← hsplit]
            rintro ⟨q1, q2⟩
            have ht' : t < e.key + 1 := ht
            rcases q2 e.src r4 e.dst r5 with q | ⟨z, hz, a1, a2, a3, a4, a5, a6, a7, a8⟩
            · exact r6 q
            · refine hr.2 ((h.mem _).2 ⟨r4, r5, r6, z, ?_, a1, a2, a3, a4, a5, a6⟩)
              rcases List.mem_append.1 hz with hz | hz
              · exact hz
              · have := hge z hz
                unfold Ev.key at this ht'
                omega
          · refine ih (done ++ [e]) [] (e.key + 1) (by rw [← hsplit]; exact hp) ⟨List.nodup_nil, fun p => ⟨fun h => absurd h (by simp), ?_⟩, hn⟩
            rintro ⟨-, -, -, z, hz, -, -, -, -, g5, g6⟩
            have hzk : z.key ≤ e.key := by
              rcases List.mem_append.1 hz with hz | hz
              · exact hle z hz
              · rw [List.mem_singleton] at hz; rw [hz]; exact Int.le_refl _
            have := key_le z
            omega
        · rw [if_neg hc, hsplit]
          exact ih (done ++ [e]) _ s (by rw [← hsplit]; exact hp) ⟨hM2, hmem, by have := h.less; simp only [List.length_cons]; omega⟩
      · rw [if_neg hr, hsplit]
        refine ih (done ++ [e]) M s (by rw [← hsplit]; exact hp) ⟨h.nodup, fun p => ?_, h.less⟩
        rw [h.mem]
        refine and_congr_right fun g1 => and_congr_right fun g2 => and_congr_right fun g3 => ⟨fun ⟨x, hx, g4⟩ => ⟨x, by simp [hx], g4⟩, fun ⟨x, hx, g4⟩ => ?_⟩
        rcases List.mem_append.1 hx with hx | hx
        · exact ⟨x, hx, g4⟩
        · rw [List.mem_singleton] at hx
          subst hx
          obtain ⟨a1, a2, a3, a4, a5, a6⟩ := g4
          have hin : (x.src, x.dst) ∈ M := Classical.byContradiction fun hno => hr ⟨(relB_iff ss s x).2 ⟨a1, a2, a5, a6, by rw [a3]; exact g1, by rw [a4]; exact g2, by rw [a3, a4]; exact g3⟩, hno⟩
          obtain ⟨-, -, -, y, hy, b1, b2, b3, b4, b5⟩ := (h.mem _).1 hin
          exact ⟨y, hy, b1, b2, by rw [← a3]; exact b3, by rw [← a4]; exact b4, b5⟩
end Go.Proofs.Ytkekhnohehhljaa
