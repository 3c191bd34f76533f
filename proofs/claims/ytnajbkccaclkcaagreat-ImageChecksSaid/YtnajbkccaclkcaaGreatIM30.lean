/- The chain of image.nodes, in plain Lean: it says whether the reference's document is the list itself. No program in sight. · hearsayref11.Check walked. Conditions: the nodes lie in memory; at most a million. · hearsayref16.Roll.Has, Members walked; the roll as two rows of flags. Condition: the roll lies in memory. -/
import Derived.Test.YtnajbkccaclkcaaGreatIM9
import Derived.Test.YtnajbkccaclkcaaGreatIM27
import Derived.Test.YtnajbkccaclkcaaGreatIM29
import Derived.Test.YtnajbkccaclkcaaGreatIM11
namespace Go.Proofs.YtnajbkccaclkcaaGreat

theorem endC_append (U : List Idt) (t C : List Nd) : endC U (t ++ C) = if endC U t = t.length then t.length + endC (U ++ t.map (·.id)) C else endC U t := by
  induction t generalizing U with
  | nil => simp [endC]
  | cons x t ih =>
    rw [List.cons_append, endC_cons, endC_cons]
    by_cases hx : x.ref ∈ U
    · rw [if_pos hx, if_pos hx, ih]
      by_cases h1 : endC (U ++ [x.id]) t = t.length
      · rw [if_pos h1, if_pos (by simp [h1])]
        simp [List.append_assoc]
        omega
      · rw [if_neg h1, if_neg (by simp; exact h1)]
    · rw [if_neg hx, if_neg hx, if_neg (by simp)]
theorem endC_stop {U : List Idt} {t C : List Nd} {n : Nd} (h : endC U t = t.length) (h1 : n.ref ∉ U ++ t.map (·.id)) : endC U (t ++ n :: C) = t.length := by
  rw [endC_append, if_pos h, endC_cons, if_neg h1]
  rfl
theorem endC_more {U : List Idt} {t : List Nd} {n : Nd} (h : endC U t = t.length) (h1 : n.ref ∈ U ++ t.map (·.id)) : endC U (t ++ [n]) = t.length + 1 := by
  rw [endC_append, if_pos h, endC_cons, if_pos h1]
  rfl
theorem walk_short (id r : Idt) (C : List Nd) (m : Nat) : ∀ R : List Nd, R.length = m → walkC id r R < R.length → walkC id r (R ++ C) = walkC id r R := by
  induction m using Nat.strongRecOn with
  | ind m ih =>
    intro R hm h
    cases R with
    | nil => simp at h
    | cons x t =>
      rw [List.cons_append, walkC_cons, walkC_cons] at *
      by_cases hc : x.ref = r ∧ ltId id x.id
      · rw [if_pos hc] at h ⊢
        rw [if_pos hc]
        have h1 := endC_le [x.id] t
        have h3 : endC [x.id] t < t.length := by
          rcases Nat.lt_or_ge (endC [x.id] t) t.length with h4 | h4
          · exact h4
          · rw [List.drop_eq_nil_of_le h4, walkC_nil] at h
            simp at h
            omega
        have e1 : endC [x.id] (t ++ C) = endC [x.id] t := by rw [endC_append, if_neg (by omega)]
        rw [e1, List.drop_append_of_le_length h1]
        have h5 : walkC id r (t.drop (endC [x.id] t)) < (t.drop (endC [x.id] t)).length := by
          rw [List.length_drop]
          simp at h
          omega
        rw [ih (t.drop (endC [x.id] t)).length (by rw [List.length_drop]; simp at hm; omega) _ rfl h5]
      · rw [if_neg hc, if_neg hc]
/-- The siblings ahead of a node: who comes ahead of it passes them, who does not stays among them. -/
def Sib (r : Idt) (A : List Nd) (x : Nd) : Prop := ∀ (C : List Nd) (id : Idt), (ltId id x.id → walkC id r (A ++ x :: C) = A.length + walkC id r (x :: C)) ∧ (¬ ltId id x.id → walkC id r (A ++ x :: C) ≤ A.length)
theorem ltId_trans {a b c : Idt} (h : ltId a b) (h' : ltId b c) : ltId a c := by
  unfold ltId at *
  omega
theorem Sib.nil {r : Idt} {n : Nd} : Sib r [] n := fun C id => ⟨fun _ => by simp, fun h => by
  rw [List.nil_append, walkC_cons, if_neg (fun e => h e.2)]
  simp⟩
theorem Sib.walk {r : Idt} {A B : List Nd} {x : Nd} (h : Sib r A x) (hr : x.ref = r) (hB : endC [x.id] B = B.length) {n : Nd} (C : List Nd) (hn : n.ref ∉ [x.id] ++ B.map (·.id)) {id : Idt} (hid : ltId id x.id) : walkC id r (A ++ x :: (B ++ n :: C)) = A.length + (B.length + 1) + walkC id r (n :: C) := by
  rw [(h _ _).1 hid, walkC_cons, if_pos ⟨hr, hid⟩, endC_stop hB hn, List.drop_left]
  omega
theorem Sib.thru {r : Idt} {A B : List Nd} {x : Nd} (h : Sib r A x) (hr : x.ref = r) (hB : endC [x.id] B = B.length) {id : Idt} (hid : ltId id x.id) : walkC id r (A ++ x :: B) = (A ++ x :: B).length := by
  rw [(h _ _).1 hid, walkC_cons, if_pos ⟨hr, hid⟩, hB, List.drop_length, walkC_nil]
  simp
theorem Sib.next {r : Idt} {A B : List Nd} {x n : Nd} (h : Sib r A x) (hr : x.ref = r) (hB : endC [x.id] B = B.length) (hn : n.ref ∉ [x.id] ++ B.map (·.id)) (hlt : ltId n.id x.id) : Sib r (A ++ x :: B) n := by
  intro C id
  have e : (A ++ x :: B) ++ n :: C = A ++ x :: (B ++ n :: C) := by simp
  have el : (A ++ x :: B).length = A.length + (B.length + 1) := by simp
  rw [e, el]
  refine ⟨fun hid => h.walk hr hB C hn (ltId_trans hid hlt), fun hid => ?_⟩
  by_cases hx : ltId id x.id
  · rw [h.walk hr hB C hn hx, walkC_cons, if_neg (fun e => hid e.2)]
    omega
  · have := (h (B ++ n :: C) id).2 hx
    omega
/-- A link of the chain, and what stands behind its node. -/
def LinkOk (r last : Idt) (R : List Nd) (ups : List Idt) : Prop :=
  (last = noId ∧ R = [] ∧ ups = []) ∨ ∃ A x B, R = A ++ x :: B ∧ x.id = last ∧ x.ref = r ∧ endC [x.id] B = B.length ∧ Sib r A x ∧ ∀ u ∈ ups, u ∈ [x.id] ++ B.map (·.id)
def behind (r : Idt) (l : List Nd) : List Nd := l.drop (startN l r)
structure ChainOk (s : List (Idt × Idt)) (l : List Nd) : Prop where
  nd : (l.map (·.id)).Nodup
  no : noId ∉ l.map (·.id)
  good : ∀ pre y post, s = pre ++ y :: post → LinkOk y.1 y.2 (behind y.1 l) (pre.map (·.1))
  neg : ∀ r, (r = noId ∨ r ∈ l.map (·.id)) → r ∉ s.map (·.1) → ∀ id, walkC id r (behind r l) < (behind r l).length
theorem pop_none {r : Idt} {s : List (Idt × Idt)} (h : popTo r s = []) : r ∉ s.map (·.1) := by
  induction s with
  | nil => simp
  | cons x s ih =>
    unfold popTo at h
    split at h
    · cases h
    · rename_i hx
      simp only [List.map_cons, List.mem_cons, not_or]
      exact ⟨fun e => hx e.symm, ih h⟩
theorem pop_some {r : Idt} {s post : List (Idt × Idt)} {y : Idt × Idt} (h : popTo r s = y :: post) : y.1 = r ∧ ∃ pre, s = pre ++ y :: post := by
  induction s with
  | nil => cases h
  | cons x s ih =>
    unfold popTo at h
    split at h
    · rename_i hx
      injection h with h1 h2
      subst h1 h2
      exact ⟨hx, [], rfl⟩
    · obtain ⟨h1, pre, h2⟩ := ih h
      exact ⟨h1, x :: pre, by rw [h2]; rfl⟩
theorem idx_drop {l : List Nd} (hnd : (l.map (·.id)).Nodup) {u : Idt} {k : Nat} (h : u ∈ (l.drop k).map (·.id)) : k ≤ idxN u l := by
  induction l generalizing k with
  | nil => simp at h
  | cons x t ih =>
    cases k with
    | zero => omega
    | succ k =>
      rw [List.map_cons, List.nodup_cons] at hnd
      rw [List.drop_succ_cons] at h
      have hu : u ∈ t.map (·.id) := by
        obtain ⟨n, hn, e⟩ := List.mem_map.1 h
        exact List.mem_map.2 ⟨n, List.mem_of_mem_drop hn, e⟩
      rw [idxN_cons, if_neg (fun e => hnd.1 (by rw [e]; exact hu))]
      have := ih hnd.2 h
      omega
theorem not_behind {l : List Nd} (hnd : (l.map (·.id)).Nodup) (hno : noId ∉ l.map (·.id)) (r : Idt) : r ∉ (behind r l).map (·.id) := fun h => by
  have hl : r ∈ l.map (·.id) := by
    obtain ⟨n, hn, e⟩ := List.mem_map.1 h
    exact List.mem_map.2 ⟨n, List.mem_of_mem_drop hn, e⟩
  have h0 : r ≠ noId := fun e => hno (e ▸ hl)
  have := idx_drop hnd h
  unfold startN at this
  rw [if_neg h0] at this
  omega
theorem behind_anti {l : List Nd} (hnd : (l.map (·.id)).Nodup) (hno : noId ∉ l.map (·.id)) {y z : Idt} (h : z ∈ (behind y l).map (·.id)) : y ∉ (behind z l).map (·.id) := fun h' => by
  have hz : z ∈ l.map (·.id) := by
    obtain ⟨n, hn, e⟩ := List.mem_map.1 h
    exact List.mem_map.2 ⟨n, List.mem_of_mem_drop hn, e⟩
  have hy : y ∈ l.map (·.id) := by
    obtain ⟨n, hn, e⟩ := List.mem_map.1 h'
    exact List.mem_map.2 ⟨n, List.mem_of_mem_drop hn, e⟩
  have h1 := idx_drop hnd h
  have h2 := idx_drop hnd h'
  unfold startN at h1 h2
  rw [if_neg (show ¬ y = noId from fun e => hno (e ▸ hy))] at h1
  rw [if_neg (show ¬ z = noId from fun e => hno (e ▸ hz))] at h2
  omega
theorem idxN_app {l : List Nd} {u : Idt} (h : u ∈ l.map (·.id)) (n : Nd) : idxN u (l ++ [n]) = idxN u l := by
  induction l with
  | nil => simp at h
  | cons x t ih =>
    rw [List.cons_append, idxN_cons, idxN_cons]
    by_cases hx : x.id = u
    · rw [if_pos hx, if_pos hx]
    · rw [if_neg hx, if_neg hx, ih]
      rw [List.map_cons, List.mem_cons] at h
      exact h.resolve_left (fun e => hx e.symm)
theorem start_le {l : List Nd} {r : Idt} (h : r = noId ∨ r ∈ l.map (·.id)) : startN l r ≤ l.length := by
  unfold startN
  split
  · omega
  · rename_i h0
    have := idxN_lt.2 (h.resolve_left h0)
    omega
theorem behind_app {l : List Nd} {r : Idt} (h : r = noId ∨ r ∈ l.map (·.id)) (n : Nd) : behind r (l ++ [n]) = behind r l ++ [n] := by
  have hle := start_le h
  have e : startN (l ++ [n]) r = startN l r := by
    unfold startN
    split
    · rfl
    · rename_i h0
      rw [idxN_app (h.resolve_left h0)]
  unfold behind
  rw [e, List.drop_append_of_le_length hle]
theorem idxN_last {l : List Nd} {n : Nd} (h : n.id ∉ l.map (·.id)) : idxN n.id (l ++ [n]) = l.length := by
  induction l with
  | nil => simp [idxN]
  | cons x t ih =>
    rw [List.map_cons, List.mem_cons, not_or] at h
    rw [List.cons_append, idxN_cons, if_neg (fun e => h.1 e.symm), ih h.2]
    rfl
theorem behind_last {l : List Nd} {n : Nd} (h : n.id ∉ l.map (·.id)) (h0 : n.id ≠ noId) : behind n.id (l ++ [n]) = [] := by
  unfold behind startN
  rw [if_neg h0, idxN_last h]
  simp
theorem LinkOk.ups_in {r last : Idt} {R : List Nd} {ups : List Idt} (h : LinkOk r last R ups) {u : Idt} (hu : u ∈ ups) : u ∈ R.map (·.id) := by
  rcases h with ⟨_, _, rfl⟩ | ⟨A, x, B, rfl, _, _, _, _, h⟩
  · cases hu
  · have := h u hu
    simp at this ⊢
    rcases this with rfl | ⟨a, ha, e⟩
    · exact .inr (.inl rfl)
    · exact .inr (.inr ⟨a, ha, e⟩)
theorem ChainOk.next {s post : List (Idt × Idt)} {l : List Nd} {y : Idt × Idt} {n : Nd} (h : ChainOk s l) (hp : popTo n.ref s = y :: post) (h1 : n.id ∉ l.map (·.id)) (h2 : n.id ≠ noId) (h3 : n.ref = noId ∨ n.ref ∈ l.map (·.id)) (h4 : ¬ (y.2 ≠ noId ∧ ¬ ltId n.id y.2)) : ChainOk ((n.id, noId) :: (y.1, n.id) :: post) (l ++ [n]) := by
  obtain ⟨hy, pre, hs⟩ := pop_some hp
  have hgy := h.good pre y post hs
  have hny : n.ref ∉ (behind y.1 l).map (·.id) := by rw [hy]; exact not_behind h.nd h.no _
  have hy3 : y.1 = noId ∨ y.1 ∈ l.map (·.id) := by rw [hy]; exact h3
  have hsib : Sib y.1 (behind y.1 l) n := by
    rcases hgy with ⟨_, hR, _⟩ | ⟨A, x, B, hR, hx, hr, hB, hsb, _⟩
    · rw [hR]; exact Sib.nil
    · rw [hR] at hny ⊢
      have hxl : x.id ∈ l.map (·.id) := by
        have : x ∈ behind y.1 l := by rw [hR]; simp
        exact List.mem_map.2 ⟨x, List.mem_of_mem_drop this, rfl⟩
      have hlt : ltId n.id x.id := by
        by_cases hc : ltId n.id x.id
        · exact hc
        · exact absurd ⟨by rw [← hx]; exact fun e => h.no (e ▸ hxl), by rw [← hx]; exact hc⟩ h4
      exact hsb.next hr hB (fun e => hny (by simp at e ⊢; exact .inr e)) hlt
  refine ⟨?_, ?_, ?_, ?_⟩
  · rw [List.map_append, List.nodup_append]
    refine ⟨h.nd, by simp, ?_⟩
    intro a ha b hb e
    simp at hb
    exact h1 (by rw [← hb, ← e]; exact ha)
  · rw [List.map_append]
    simp only [List.mem_append, not_or]
    exact ⟨h.no, by simpa using fun e => h2 e.symm⟩
  · intro pre' z post' e
    cases pre' with
    | nil =>
      injection e with e1 e2
      subst e1
      exact .inl ⟨rfl, behind_last h1 h2, rfl⟩
    | cons a pre' =>
      injection e with e1 e
      subst e1
      cases pre' with
      | nil =>
        injection e with e1 e2
        subst e1
        simp only
        rw [behind_app hy3]
        exact .inr ⟨behind y.1 l, n, [], rfl, rfl, hy.symm, rfl, hsib, by simp⟩
      | cons b pre2 =>
        injection e with e1 e2
        subst e1
        have hgz := h.good (pre ++ y :: pre2) z post' (by rw [hs, e2]; simp)
        have hz3 : z.1 = noId ∨ z.1 ∈ l.map (·.id) := by
          by_cases hz : z.1 ∈ l.map (·.id)
          · exact .inr hz
          · refine .inl ?_
            by_cases h0 : z.1 = noId
            · exact h0
            · have hb : behind z.1 l = [] := by
                unfold behind startN
                rw [if_neg h0]
                have : ¬ idxN z.1 l < l.length := fun e => hz (idxN_lt.1 e)
                exact List.drop_eq_nil_of_le (by omega)
              rcases hgz with ⟨_, _, hu⟩ | ⟨A, x, B, hR, _⟩
              · simp at hu
              · rw [hb] at hR; simp at hR
        rw [behind_app hz3]
        rcases hgz with ⟨_, _, hu⟩ | ⟨A, x, B, hR, hx, hr, hB, hsb, hu⟩
        · simp at hu
        · refine .inr ⟨A, x, B ++ [n], by rw [hR]; simp, hx, hr, ?_, hsb, ?_⟩
          · rw [endC_more hB (by rw [← hy]; exact hu _ (by simp))]
            simp
          · intro u hu'
            simp only [List.map_cons, List.mem_cons] at hu'
            rcases hu' with rfl | rfl | hu'
            · simp
            · have := hu y.1 (by simp)
              simp at this ⊢
              rcases this with e | ⟨a, ha, e⟩
              · exact .inl e
              · exact .inr (.inl ⟨a, ha, e⟩)
            · have := hu u (by simp at hu' ⊢; exact .inr (.inr hu'))
              simp at this ⊢
              rcases this with e | ⟨a, ha, e⟩
              · exact .inl e
              · exact .inr (.inl ⟨a, ha, e⟩)
  · intro r hr hns id
    simp only [List.map_cons, List.mem_cons, not_or] at hns
    obtain ⟨hn1, hn2, hn3⟩ := hns
    have hr' : r = noId ∨ r ∈ l.map (·.id) := by
      rcases hr with e | e
      · exact .inl e
      · rw [List.map_append, List.mem_append] at e
        rcases e with e | e
        · exact .inr e
        · simp at e; exact absurd e hn1
    rw [behind_app hr', List.length_append]
    by_cases hin : r ∈ s.map (·.1)
    · rw [hs, List.map_append, List.mem_append, List.map_cons, List.mem_cons] at hin
      have hpre : r ∈ pre.map (·.1) := by
        rcases hin with e | e | e
        · exact e
        · exact absurd e hn2
        · exact absurd e hn3
      obtain ⟨z, hz, rfl⟩ := List.mem_map.1 hpre
      obtain ⟨p1, p2, hpp⟩ := List.append_of_mem hz
      have hgz := h.good p1 z (p2 ++ y :: post) (by rw [hs, hpp]; simp)
      have hzb : z.1 ∈ (behind y.1 l).map (·.id) := hgy.ups_in hpre
      have hnz : n.ref ∉ (behind z.1 l).map (·.id) := by rw [← hy]; exact behind_anti h.nd h.no hzb
      have hrz : ¬ n.ref = z.1 := fun e => hn2 (by rw [hy, e])
      rcases hgz with ⟨_, hR, _⟩ | ⟨A, x, B, hR, hx, hr2, hB, hsb, hu⟩
      · rw [hR, List.nil_append, walkC_cons, if_neg (fun e => hrz e.1)]
        simp
      · rw [hR] at hnz ⊢
        have e : A ++ x :: B ++ [n] = A ++ x :: (B ++ n :: []) := by simp
        have el : (A ++ x :: B).length = A.length + (B.length + 1) := by simp
        rw [e, el]
        by_cases hc : ltId id x.id
        · rw [hsb.walk hr2 hB [] (fun e => hnz (by simp at e ⊢; exact .inr e)) hc, walkC_cons, if_neg (fun e => hrz e.1)]
          simp
        · have := (hsb (B ++ n :: []) id).2 hc
          omega
    · have := h.neg r hr' hin id
      rw [walk_short id r [n] _ _ rfl this]
      omega
theorem place_end {l : List Nd} {id r : Idt} (h : r = noId ∨ r ∈ l.map (·.id)) : placeN l id r = l.length ↔ walkC id r (behind r l) = (behind r l).length := by
  have := start_le h
  unfold placeN behind
  rw [List.length_drop]
  omega
/-- Each of these comes at the end. -/
def endsP : List Nd → List Nd → Prop
  | _, [] => True
  | l, n :: t => placeN l n.id n.ref = l.length ∧ endsP (l ++ [n]) t
def validP : List Nd → List Nd → Prop
  | _, [] => True
  | l, n :: t => (n.id ∉ l.map (·.id) ∧ n.id ≠ noId ∧ (n.ref = noId ∨ n.ref ∈ l.map (·.id))) ∧ validP (l ++ [n]) t
theorem chain_iff (rest : List Nd) : ∀ (s : List (Idt × Idt)) (l : List Nd), ChainOk s l → validP l rest → (chainB s rest = true ↔ endsP l rest) := by
  induction rest with
  | nil => intro s l _ _; simp [chainB, endsP]
  | cons n t ih =>
    intro s l h hv
    obtain ⟨⟨h1, h2, h3⟩, hv⟩ := hv
    unfold endsP
    rw [place_end h3]
    cases hp : popTo n.ref s with
    | nil =>
      rw [chainB_none hp]
      have := h.neg _ h3 (pop_none hp) n.id
      refine ⟨fun e => (by cases e), fun e => ?_⟩
      have := e.1
      omega
    | cons y post =>
      rw [chainB_some hp]
      by_cases hc : y.2 ≠ noId ∧ ¬ ltId n.id y.2
      · rw [if_pos hc]
        refine ⟨fun e => (by cases e), fun e => ?_⟩
        obtain ⟨hy, pre, hs⟩ := pop_some hp
        have hg := h.good pre y post hs
        rcases hg with ⟨e0, _⟩ | ⟨A, x, B, hR, hx, hr, hB, hsb, _⟩
        · exact absurd e0 hc.1
        · have e1 := e.1
          rw [← hy, hR] at e1
          have := (hsb B n.id).2 (by rw [hx]; exact hc.2)
          rw [e1] at this
          simp at this
          omega
      · rw [if_neg hc, ih _ _ (h.next hp h1 h2 h3 hc) hv]
        have : walkC n.id n.ref (behind n.ref l) = (behind n.ref l).length := by
          obtain ⟨hy, pre, hs⟩ := pop_some hp
          have hg := h.good pre y post hs
          rw [← hy]
          rcases hg with ⟨_, hR, _⟩ | ⟨A, x, B, hR, hx, hr, hB, hsb, _⟩
          · rw [hR, walkC_nil]; rfl
          · have hxl : x.id ∈ l.map (·.id) := by
              have : x ∈ behind y.1 l := by rw [hR]; simp
              exact List.mem_map.2 ⟨x, List.mem_of_mem_drop this, rfl⟩
            rw [hR]
            refine hsb.thru hr hB ?_
            by_cases hl : ltId n.id x.id
            · exact hl
            · exact absurd ⟨by rw [← hx]; exact fun e => h.no (e ▸ hxl), by rw [← hx]; exact hl⟩ hc
        exact ⟨fun e => ⟨this, e⟩, fun e => e.2⟩
theorem chain_ok0 : ChainOk [(noId, noId)] [] := by
  refine ⟨by simp, by simp, ?_, ?_⟩
  · intro pre y post e
    cases pre with
    | nil => injection e with e1 e2; subst e1; exact .inl ⟨rfl, by simp [behind], rfl⟩
    | cons a pre => injection e with e1 e2; simp at e2
  · intro r hr hns
    rcases hr with rfl | hr
    · simp at hns
    · simp at hr
/-- All put in, one after the other. -/
def buildP : List Nd → List Nd → List Nd
  | l, [] => l
  | l, n :: t => buildP (putN l (placeN l n.id n.ref) n) t
theorem putN_sub (l : List Nd) (i : Nat) (n : Nd) : l.Sublist (putN l i n) := by
  unfold putN
  have e : l = l.take i ++ l.drop i := (List.take_append_drop i l).symm
  exact (congrArg (fun z => List.Sublist z (l.take i ++ n :: l.drop i)) e).mpr ((List.Sublist.refl _).append (List.sublist_cons_self _ _))
theorem buildP_sub (t : List Nd) : ∀ l : List Nd, l.Sublist (buildP l t) := by
  induction t with
  | nil => intro l; exact List.Sublist.refl _
  | cons n t ih => intro l; exact (putN_sub l _ n).trans (ih _)
theorem sub_anti {n y : Nd} : ∀ {L : List Nd}, L.Nodup → List.Sublist [n, y] L → List.Sublist [y, n] L → False := by
  intro L
  induction L with
  | nil => intro _ h; cases h
  | cons a L ih =>
    intro hnd h h'
    rw [List.nodup_cons] at hnd
    cases h with
    | cons _ h =>
      cases h' with
      | cons _ h' => exact ih hnd.2 h h'
      | cons_cons _ h' => exact hnd.1 (h.subset (by simp))
    | cons_cons _ h =>
      cases h' with
      | cons _ h' => exact hnd.1 (h'.subset (by simp))
      | cons_cons _ h' => exact hnd.1 (h.subset (by simp))
theorem nodup_of_ids {l : List Nd} (h : (l.map (·.id)).Nodup) : l.Nodup := by
  induction l with
  | nil => simp
  | cons x t ih =>
    rw [List.map_cons, List.nodup_cons] at h
    rw [List.nodup_cons]
    exact ⟨fun e => h.1 (List.mem_map.2 ⟨x, e, rfl⟩), ih h.2⟩
theorem valid_nodup (t : List Nd) : ∀ l, (l.map (·.id)).Nodup → validP l t → ((l ++ t).map (·.id)).Nodup := by
  induction t with
  | nil => intro l h _; simpa using h
  | cons n t ih =>
    intro l h hv
    have := ih (l ++ [n]) (by
      rw [List.map_append, List.nodup_append]
      refine ⟨h, by simp, ?_⟩
      intro a ha b hb e
      simp at hb
      exact hv.1.1 (by rw [← hb, ← e]; exact ha)) hv.2
    simpa using this
theorem build_iff (t : List Nd) : ∀ l, (l.map (·.id)).Nodup → validP l t → (buildP l t = l ++ t ↔ endsP l t) := by
  induction t with
  | nil => intro l _ _; simp [buildP, endsP]
  | cons n t ih =>
    intro l hnd hv
    have hall := valid_nodup (n :: t) l hnd hv
    unfold buildP endsP
    by_cases hp : placeN l n.id n.ref = l.length
    · have e : putN l (placeN l n.id n.ref) n = l ++ [n] := by rw [hp]; simp [putN]
      rw [e]
      have hnd2 : ((l ++ [n]).map (·.id)).Nodup := by
        have : ((l ++ [n] ++ t).map (·.id)).Nodup := by simpa using hall
        rw [List.map_append, List.nodup_append] at this
        exact this.1
      have := ih (l ++ [n]) hnd2 hv.2
      rw [show l ++ n :: t = l ++ [n] ++ t by simp, this]
      exact ⟨fun e => ⟨hp, e⟩, fun e => e.2⟩
    · refine ⟨fun e => ?_, fun e => absurd e.1 hp⟩
      exfalso
      have hle := placeN_le (id := n.id) hv.1.2.2
      obtain ⟨p, hpp⟩ : ∃ p, placeN l n.id n.ref = p := ⟨_, rfl⟩
      rw [hpp] at hp hle e
      have hlt : p < l.length := by omega
      have hd := List.drop_eq_getElem_cons hlt
      have hs1 : List.Sublist [n, l[p]] (putN l p n) := by
        unfold putN
        rw [hd]
        refine List.Sublist.trans ?_ (List.sublist_append_right _ _)
        exact (List.cons_sublist_cons.2 (List.cons_sublist_cons.2 (List.nil_sublist _)))
      have hs2 := hs1.trans (buildP_sub t (putN l p n))
      rw [e] at hs2
      have hs3 : List.Sublist [l[p], n] (l ++ n :: t) := by
        have : List.Sublist ([l[p]] ++ [n]) (l ++ n :: t) := (List.singleton_sublist.2 (List.getElem_mem hlt)).append (List.cons_sublist_cons.2 (List.nil_sublist _))
        simpa using this
      exact sub_anti (nodup_of_ids hall) hs2 hs3
theorem chain_build {nodes : List Nd} (h : validP [] nodes) : chainB [(noId, noId)] nodes = true ↔ buildP [] nodes = nodes := by
  rw [chain_iff nodes _ _ chain_ok0 h, ← build_iff nodes [] (by simp) h]
  simp
end Go.Proofs.YtnajbkccaclkcaaGreat

namespace Go.Proofs.YtnajbkccaclkcaaGreat
open Go Go.RowKit

/-- Why nodes are no document's. -/
def treeE (l : List Nd) : Int := if oneE [] l ≠ 0 then oneE [] l else if buildP [] l = l then 0 else 9
theorem validP_congr (t : List Nd) : ∀ {l l' : List Nd}, (∀ i, i ∈ l.map (·.id) ↔ i ∈ l'.map (·.id)) → validP l t → validP l' t := by
  induction t with
  | nil => intro l l' _ _; trivial
  | cons n t ih =>
    intro l l' h hv
    obtain ⟨⟨h1, h2, h3⟩, hv⟩ := hv
    refine ⟨⟨fun e => h1 ((h _).2 e), h2, h3.imp id (h _).1⟩, ih (fun i => ?_) hv⟩
    rw [List.map_append, List.map_append, List.mem_append, List.mem_append, h i]
theorem mem_putN {l : List Nd} {i : Nat} {n : Nd} (z : Idt) : z ∈ (putN l i n).map (·.id) ↔ z ∈ (l ++ [n]).map (·.id) := by
  unfold putN
  have e : z ∈ l.map (·.id) ↔ z ∈ (l.take i).map (·.id) ∨ z ∈ (l.drop i).map (·.id) := by
    rw [← List.mem_append, ← List.map_append, List.take_append_drop]
  rw [List.map_append, List.map_append, List.mem_append, List.mem_append, e, List.map_cons, List.mem_cons, List.map_cons, List.map_nil, List.mem_singleton]
  constructor
  · rintro (h | h | h)
    · exact .inl (.inl h)
    · exact .inr h
    · exact .inl (.inr h)
  · rintro ((h | h) | h)
    · exact .inl h
    · exact .inr (.inr h)
    · exact .inr (.inl h)
theorem nodeE_zero {n : Nd} {S : List Idt} (h : nodeE n S = 0) : n.id ∉ S ∧ n.id ≠ noId ∧ (n.ref = noId ∨ n.ref ∈ S) := by
  unfold nodeE at h
  simp only [firstE] at h
  by_cases c1 : (!okId n.id || (!decide (n.ref = noId) && !okId n.ref)) = true
  · rw [if_pos c1] at h; simp at h
  rw [if_neg c1] at h
  by_cases c2 : (!isRuneB n.ru || decide (n.st < 1) || decide (3 < n.st)) = true
  · rw [if_pos c2] at h; simp at h
  rw [if_neg c2] at h
  by_cases c3 : (!decide (ltId n.ref n.id)) = true
  · rw [if_pos c3] at h; simp at h
  rw [if_neg c3] at h
  by_cases c4 : decide (n.id ∈ S) = true
  · rw [if_pos c4] at h; simp at h
  rw [if_neg c4] at h
  by_cases c5 : (!decide (n.ref = noId) && !decide (n.ref ∈ S)) = true
  · rw [if_pos c5] at h; simp at h
  refine ⟨by simpa using c4, fun e => c1 ?_, ?_⟩
  · rw [e]; rfl
  · by_cases h0 : n.ref = noId
    · exact .inl h0
    · refine .inr ?_
      simpa [h0] using c5
theorem oneE_valid (t : List Nd) : ∀ {S : List Idt} {l : List Nd}, oneE S t = 0 → (∀ i, i ∈ S ↔ i ∈ l.map (·.id)) → validP l t := by
  induction t with
  | nil => intro S l _ _; trivial
  | cons n t ih =>
    intro S l h hS
    rw [oneE_cons] at h
    by_cases h0 : nodeE n S = 0
    · rw [if_pos h0] at h
      obtain ⟨h1, h2, h3⟩ := nodeE_zero h0
      refine ⟨⟨fun e => h1 ((hS _).2 e), h2, h3.imp id (hS _).1⟩, ih h fun i => ?_⟩
      rw [List.map_append, List.mem_append, List.mem_cons, hS i]
      simp only [List.map_cons, List.map_nil, List.mem_singleton]
      exact Or.comm
    · rw [if_neg h0] at h; exact absurd h h0
/-- The nodes' answer is the reference's. -/
theorem nodesE_tree (clock : Int) (l : List Nd) : nodesE clock l = if treeE l ≠ 0 then treeE l else lateE clock 0 l := by
  unfold nodesE treeE
  by_cases h : oneE [] l = 0
  · have hb := chain_build (oneE_valid l h (l := []) (fun i => by simp))
    by_cases hc : chainB [(noId, noId)] l = true
    · simp [h, hc, hb.1 hc]
    · simp [h, hc, show ¬ buildP [] l = l from fun e => hc (hb.2 e)]
  · simp [h]
theorem nd_diff {a b c d e f a' b' c' d' e' f' : Int} (h : ¬ ((⟨⟨a, b⟩, ⟨c, d⟩, e, f⟩ : Nd) = ⟨⟨a', b'⟩, ⟨c', d'⟩, e', f'⟩)) : (a == a') = false ∨ (a = a' ∧ (b == b') = false) ∨ (a = a' ∧ b = b' ∧ (c == c') = false) ∨ (a = a' ∧ b = b' ∧ c = c' ∧ (d == d') = false) ∨ (a = a' ∧ b = b' ∧ c = c' ∧ d = d' ∧ (e == e') = false) ∨ (a = a' ∧ b = b' ∧ c = c' ∧ d = d' ∧ e = e' ∧ (f == f') = false) := by
  by_cases h1 : a = a'
  · by_cases h2 : b = b'
    · by_cases h3 : c = c'
      · by_cases h4 : d = d'
        · by_cases h5 : e = e'
          · by_cases h6 : f = f'
            · exact absurd (by rw [h1, h2, h3, h4, h5, h6]) h
            · exact .inr (.inr (.inr (.inr (.inr ⟨h1, h2, h3, h4, h5, by simp [h6]⟩))))
          · exact .inr (.inr (.inr (.inr (.inl ⟨h1, h2, h3, h4, by simp [h5]⟩))))
        · exact .inr (.inr (.inr (.inl ⟨h1, h2, h3, by simp [h4]⟩)))
      · exact .inr (.inr (.inl ⟨h1, h2, by simp [h3]⟩))
    · exact .inr (.inl ⟨h1, by simp [h2]⟩)
  · exact .inl (by simp [h1])

set_option maxRecDepth 100000 in
set_option maxHeartbeats 8000000 in
theorem RCheck11_any (A : Option Addr) (l : List Nd) (c : Nat) (w : World) (hl : CellsAt w A (nds l)) (hc : l.length ≤ c) (hn : l.length ≤ 1000000) : Calls Tryz.prog 34 #[.slice A l.length c] w (IntPost w (treeE l)) := by
  have HOF := Lib.hid (fun (i : Nat) (hi : i < l.length) W (hW : Kept (fun _ => False) w W) => offends_any A l c i hi W (hl.fresh hW) hc hn)
  obtain ⟨N, hN⟩ : ∃ N, l.length = N := ⟨_, rfl⟩
  have HOF2 := Lib.hid (show ∀ (i : Nat) (hi : i < l.length) W, Kept (fun _ => False) w W → Calls Tryz.prog 70 #[.slice A N c, .int .i64 i] W (IntPost W (nodeE l[i] ((l.take i).map (·.id)))) from fun i hi W hW => by
    have := HOF.out i hi W hW
    rw [hN] at this
    exact this)
  rw [hN] at hc hn ⊢
  obtain ⟨se, hse⟩ : ∃ se, treeE l = se := ⟨_, rfl⟩
  rw [hse]
  unfold treeE at hse
  have HSE := Lib.hid hse
  have HN := Lib.hid hN
  have HL := Lib.hid hl
  clear hl hN hse HOF
  go_enter Tryz.func34, Tryz.ntmps34
  go_wp2_with (fail)
  go_loopw [3] (fun v wr => ∃ (k : Nat) (S : List Idt), v = .int .i64 k ∧ k ≤ N ∧ Kept (fun _ => False) w wr ∧ (∀ i, i ∈ S ↔ i ∈ (l.take k).map (·.id)) ∧ oneE [] l = oneE S (l.drop k)) (fun v _ => N - (intOf v).toNat)
  case atStart => exact ⟨0, [], rfl, Nat.zero_le _, Kept.refl _ _, fun i => by simp, rfl⟩
  case round =>
    obtain ⟨k, S, rfl, hk, hkw, hS, hf⟩ := hrel
    have HF := Lib.hid hf
    have HKW := Lib.hid hkw
    have HS := Lib.hid hS
    clear hf hkw hS
    by_cases hlt : k < N
    · have hin : (k : Int) < (N : Int) := by omega
      have hkl : k < l.length := by rw [HN.out]; exact hlt
      have HO := Lib.hid (HOF2.out k hkl wr HKW.out)
      have hd := List.drop_eq_getElem_cons hkl
      have ht := List.take_succ_eq_append_getElem hkl
      obtain ⟨x, hx⟩ : ∃ x, l[k] = x := ⟨_, rfl⟩
      rw [hx] at HO hd ht
      rw [nodeE_congr (fun i => (HS.out i).symm)] at HO
      have HD := Lib.hid ((HF.out.trans (congrArg (oneE S) hd)).trans (oneE_cons ..))
      have HS2 := Lib.hid (show ∀ i, i ∈ x.id :: S ↔ i ∈ (l.take (k + 1)).map (·.id) from fun i => by
        rw [ht, List.map_append, List.mem_append, List.mem_cons, HS.out i]
        simp only [List.map_cons, List.map_nil, List.mem_singleton]
        exact Or.comm)
      obtain ⟨ne, hne⟩ : ∃ ne, nodeE x S = ne := ⟨_, rfl⟩
      rw [hne] at HO HD
      clear hd ht hx hne
      by_cases h0 : ne = 0
      · as_aux_lemma =>
        have HD2 := Lib.hid (HD.out.trans (if_pos h0))
        have b1 : (ne != 0) = false := by simp [h0]
        clear h0
        go_wp2_with (fail)
        refine HO.out.mono ?_
        unfold IntPost
        rintro r w3 ⟨rfl, hk3⟩
        have HK3 := Lib.hid (HKW.out.trans hk3 fun _ _ e => e)
        clear hk3
        go_wp2_with (fail)
        go_roundw
        case rel => exact ⟨k + 1, x.id :: S, by go_num, by omega, HK3.out, HS2.out, HD2.out⟩
        case measure => simp [intOf]; omega
      · as_aux_lemma =>
        have hs : se = ne := by
          have h1 := HD.out.trans (if_neg h0)
          have := HSE.out
          rw [h1, if_pos h0] at this
          exact this.symm
        have HS3 := Lib.hid hs
        have b1 : (ne != 0) = true := by simp [h0]
        have b2 : (ne == 0) = false := by simp [h0]
        clear h0 hs
        go_wp2_with (fail)
        refine HO.out.mono ?_
        unfold IntPost
        rintro r w3 ⟨rfl, hk3⟩
        have HK3 := Lib.hid (HKW.out.trans hk3 fun _ _ e => e)
        clear hk3
        go_wp2_with (fail)
        go_ret
        exact ⟨ret_int HS3.out.symm, HK3.out⟩
    · have hin : ¬ (k : Int) < (N : Int) := by omega
      have h1 : oneE [] l = 0 := by
        have := HF.out
        rw [List.drop_eq_nil_of_le (by rw [HN.out]; omega)] at this
        exact this
      have hse : (if buildP [] l = l then (0 : Int) else 9) = se := by
        have := HSE.out
        rw [if_neg (fun e => e h1)] at this
        exact this
      have HVAL := Lib.hid (oneE_valid l h1 (l := []) (fun i => by simp))
      have HSE2 := Lib.hid hse
      clear h1 hse HF HS HSE HOF2
      obtain ⟨w1, hw1⟩ : ∃ w1 : World, w1 = wr := ⟨_, rfl⟩
      subst hw1
      go_wp2_with (fail)
      go_loopw [5, 6] (fun vl vi wr => ∃ (k : Nat) (L : List Nd) (A' : Option Addr) (c' b0 : Nat), vl = .slice A' L.length c' ∧ vi = .int .i64 k ∧ k ≤ N ∧ L.length = k ∧ Kept (fun _ => False) w wr ∧ wr.ownsRow b0 66 6 (.slice A' L.length c') L.length (nds L) ∧ validP L (l.drop k) ∧ buildP [] l = buildP L (l.drop k)) (fun _ vi _ => N - (intOf vi).toNat)
      case atStart => exact ⟨0, [], none, 0, 0, rfl, rfl, Nat.zero_le _, rfl, HKW.out, World.ownsRow_nil _ _ _ _, HVAL.out, rfl⟩
      case round =>
        obtain ⟨k, L, A', c', b0, rfl, rfl, hk, hL, hkw, hrow, hv, hf⟩ := hrel
        have HF := Lib.hid hf
        have HKW := Lib.hid hkw
        have HROW := Lib.hid hrow
        have HV := Lib.hid hv
        have HLL := Lib.hid hL
        clear hf hkw hrow hv hlt hin
        by_cases hlt : k < N
        · as_aux_lemma =>
          have hin : (k : Int) < (N : Int) := by omega
          have hkl : k < l.length := by rw [HN.out]; exact hlt
          obtain ⟨b, f, hA, hcc⟩ := HL.out.some_ (by rw [nds_len]; omega)
          subst hA
          have hr := nd_range (w := wr) (fun j u hj => HKW.out.cellF (hcc j u hj)) k hkl
          have hd := List.drop_eq_getElem_cons hkl
          obtain ⟨x, hx⟩ : ∃ x, l[k] = x := ⟨_, rfl⟩
          rw [hx] at hr hd
          have hv2 := HV.out
          rw [hd] at hv2
          obtain ⟨⟨hv3, hv4, hv5⟩, hv6⟩ := hv2
          have hle := placeN_le (id := x.id) hv5
          have HF2 := Lib.hid (HF.out.trans (congrArg (buildP L) hd))
          obtain ⟨⟨it, is⟩, ⟨rt, rs⟩, ru, st⟩ := x
          simp only at hle
          have HPL := Lib.hid (fun W (hW : Kept (fun _ => False) wr W) => place_any A' L c' ⟨it, is⟩ ⟨rt, rs⟩ W (CellsAt.of_own (hW.own HROW.out fun _ _ => id)) (by omega))
          simp only at HPL
          obtain ⟨P, hP⟩ : ∃ P, placeN L ⟨it, is⟩ ⟨rt, rs⟩ = P := ⟨_, rfl⟩
          rw [hP] at HPL hle
          have HPT := Lib.hid (fun W (hW : Kept (fun _ => False) wr W) => put_any A' L c' P ⟨⟨it, is⟩, ⟨rt, rs⟩, ru, st⟩ W b0 (hW.own HROW.out fun _ _ => id) hle (by omega))
          simp only at HPT
          have hval2 : validP (putN L P ⟨⟨it, is⟩, ⟨rt, rs⟩, ru, st⟩) (l.drop (k + 1)) := validP_congr _ (fun z => (mem_putN z).symm) hv6
          have HF3 := Lib.hid (show buildP [] l = buildP (putN L P ⟨⟨it, is⟩, ⟨rt, rs⟩, ru, st⟩) (l.drop (k + 1)) from HF2.out.trans (by rw [← hP]; rfl))
          have HVAL2 := Lib.hid hval2
          have HLP := Lib.hid (show (putN L P ⟨⟨it, is⟩, ⟨rt, rs⟩, ru, st⟩).length = k + 1 by rw [putN_len, HLL.out])
          obtain ⟨L', hL'⟩ : ∃ L', putN L P ⟨⟨it, is⟩, ⟨rt, rs⟩, ru, st⟩ = L' := ⟨_, rfl⟩
          rw [hL'] at HPT HF3 HVAL2 HLP
          rw [HLL.out] at HPL HPT ⊢
          have x0 : wr.cell? ⟨b, f + k * 6, none⟩ = some (.int .i64 it) := by simpa using hr 0 _ rfl
          have x1 : wr.cell? ⟨b, f + k * 6 + 1, none⟩ = some (.int .i64 is) := hr 1 _ rfl
          have x2 : wr.cell? ⟨b, f + k * 6 + 2, none⟩ = some (.int .i64 rt) := hr 2 _ rfl
          have x3 : wr.cell? ⟨b, f + k * 6 + 3, none⟩ = some (.int .i64 rs) := hr 3 _ rfl
          have x4 : wr.cell? ⟨b, f + k * 6 + 4, none⟩ = some (.int .i32 ru) := hr 4 _ rfl
          have x5 : wr.cell? ⟨b, f + k * 6 + 5, none⟩ = some (.int .i64 st) := hr 5 _ rfl
          have aI := Tryz.isAgg61
          have zI := Tryz.sizeOf61
          have aN := Tryz.isAgg66
          have zN := Tryz.sizeOf66
          clear hr hd hx hcc hv3 hv4 hv5 hv6 hle hP hval2 hL' HF2 HF HV
          go_upto_region 11 with (fail)
          refine wp_region_class_tail (C := fun w' => Kept (fun _ => False) wr w') 17 (by kernel_rfl) (by kernel_rfl) (Kept.refl _ _).drew ?_
          simp only [List.take_succ_cons, List.take_zero, List.drop_succ_cons, List.drop_zero]
          iterate 17
            first | go_big_quiet_skip | (go_big_quiet_want; first | (go_big_quiet_op; go_big_quiet_on) | (apply Exists.intro; refine ⟨fun w' hS => ?_, ?_⟩; (have d0 := hS.cellF x0; have d1 := hS.cellF x1; have d2 := hS.cellF x2; have d3 := hS.cellF x3; have d4 := hS.cellF x4; have d5 := hS.cellF x5; go_simp; first | rfl | exact ⟨rfl, rfl⟩ | ((with_reducible refine (HPL.out _ hS).mono ?_); unfold IntPost; rintro e w2 ⟨rfl, hk⟩; exact ⟨rfl, hS.trans hk fun _ _ e => e⟩)); (try simp only [Act.put, List.setIfInBounds_toArray, List.set_cons_zero, List.set_cons_succ]); go_big_quiet_on))
          refine wpQuiet_nil ?_
          intro w5 hS
          have HS := Lib.hid hS
          clear hS x0 x1 x2 x3 x4 x5
          go_wp2_with (fail)
          refine (HPT.out _ HS.out).mono ?_
          unfold NdsPost
          rintro r w6 ⟨A2, c2, rfl, hrow6, hk6⟩
          have HROW6 := Lib.hid hrow6
          have HK6 := Lib.hid ((HKW.out.trans HS.out fun _ _ e => e).trans hk6 fun _ _ e => e)
          clear hrow6 hk6
          go_wp2_with (fail)
          go_roundw
          case rel => exact ⟨k + 1, L', A2, c2, _, rfl, by go_num, by omega, HLP.out, HK6.out, HROW6.out, HVAL2.out, HF3.out⟩
          case measure => simp [intOf]; omega
        · have hin : ¬ (k : Int) < (N : Int) := by omega
          have hkN : k = N := by omega
          have hb : buildP [] l = L := by
            have := HF.out
            rw [List.drop_eq_nil_of_le (by rw [HN.out]; omega)] at this
            exact this
          have hse : (if L = l then (0 : Int) else 9) = se := by rw [← hb]; exact HSE2.out
          have HSE3 := Lib.hid hse
          have HLC := Lib.hid (CellsAt.of_own HROW.out)
          have HLN := Lib.hid (HLL.out.trans hkN)
          clear hb hse HF HV HSE2 HROW
          obtain ⟨w2, hw2⟩ : ∃ w2 : World, w2 = wr := ⟨_, rfl⟩
          subst hw2
          rw [HLN.out]
          have hkN2 := hkN
          subst hkN2
          clear hkN
          go_wp2_with (fail)
          go_loopw [7] (fun v wr => ∃ q : Nat, v = .int .i64 q ∧ q ≤ k ∧ Kept (fun _ => False) w2 wr ∧ L.take q = l.take q) (fun v _ => k - (intOf v).toNat)
          case atStart => exact ⟨0, rfl, Nat.zero_le _, Kept.refl _ _, rfl⟩
          case round =>
            obtain ⟨q, rfl, hq, hkx, hf⟩ := hrel
            have HF := Lib.hid hf
            have HKX := Lib.hid hkx
            have HKR := Lib.hid (HKW.out.trans hkx fun _ _ e => e)
            clear hf hkx
            by_cases hlt2 : q < k
            · have hin2 : (q : Int) < (k : Int) := by omega
              have hql : q < l.length := by rw [HN.out]; exact hlt2
              have hqL : q < L.length := by rw [HLN.out]; exact hlt2
              obtain ⟨b, f, hA, hcc⟩ := HL.out.some_ (by rw [nds_len]; omega)
              subst hA
              obtain ⟨b2, f2, hA2, hcc2⟩ := HLC.out.some_ (by rw [nds_len]; omega)
              subst hA2
              have hr := nd_range (w := wr) (fun j u hj => HKR.out.cellF (hcc j u hj)) q hql
              have hr2 := nd_range (w := wr) (fun j u hj => HKX.out.cellF (hcc2 j u hj)) q hqL
              have ht := List.take_succ_eq_append_getElem hql
              have ht2 := List.take_succ_eq_append_getElem hqL
              have hne : L[q] ≠ l[q] → ¬ L = l := fun h e => h (by subst e; rfl)
              obtain ⟨x, hx⟩ : ∃ x, l[q] = x := ⟨_, rfl⟩
              obtain ⟨y, hy⟩ : ∃ y, L[q] = y := ⟨_, rfl⟩
              rw [hx] at hr ht hne
              rw [hy] at hr2 ht2 hne
              have HT := Lib.hid ht
              have HT2 := Lib.hid ht2
              have HNE := Lib.hid hne
              obtain ⟨⟨a0, a1⟩, ⟨a2, a3⟩, a4, a5⟩ := x
              obtain ⟨⟨e0, e1⟩, ⟨e2, e3⟩, e4, e5⟩ := y
              have x0 : wr.cell? ⟨b, f + q * 6, none⟩ = some (.int .i64 a0) := by simpa using hr 0 _ rfl
              have x1 : wr.cell? ⟨b, f + q * 6 + 1, none⟩ = some (.int .i64 a1) := hr 1 _ rfl
              have x2 : wr.cell? ⟨b, f + q * 6 + 2, none⟩ = some (.int .i64 a2) := hr 2 _ rfl
              have x3 : wr.cell? ⟨b, f + q * 6 + 3, none⟩ = some (.int .i64 a3) := hr 3 _ rfl
              have x4 : wr.cell? ⟨b, f + q * 6 + 4, none⟩ = some (.int .i32 a4) := hr 4 _ rfl
              have x5 : wr.cell? ⟨b, f + q * 6 + 5, none⟩ = some (.int .i64 a5) := hr 5 _ rfl
              have y0 : wr.cell? ⟨b2, f2 + q * 6, none⟩ = some (.int .i64 e0) := by simpa using hr2 0 _ rfl
              have y1 : wr.cell? ⟨b2, f2 + q * 6 + 1, none⟩ = some (.int .i64 e1) := hr2 1 _ rfl
              have y2 : wr.cell? ⟨b2, f2 + q * 6 + 2, none⟩ = some (.int .i64 e2) := hr2 2 _ rfl
              have y3 : wr.cell? ⟨b2, f2 + q * 6 + 3, none⟩ = some (.int .i64 e3) := hr2 3 _ rfl
              have y4 : wr.cell? ⟨b2, f2 + q * 6 + 4, none⟩ = some (.int .i32 e4) := hr2 4 _ rfl
              have y5 : wr.cell? ⟨b2, f2 + q * 6 + 5, none⟩ = some (.int .i64 e5) := hr2 5 _ rfl
              have aN := Tryz.isAgg66
              have zN := Tryz.sizeOf66
              clear hr hr2 ht ht2 hx hy hcc hcc2 hne
              by_cases hxy : (⟨⟨e0, e1⟩, ⟨e2, e3⟩, e4, e5⟩ : Nd) = ⟨⟨a0, a1⟩, ⟨a2, a3⟩, a4, a5⟩
              · as_aux_lemma =>
                injection hxy with h1 h2 h3 h4
                injection h1 with h5 h6
                injection h2 with h7 h8
                subst h3 h4 h5 h6 h7 h8
                have HT3 := Lib.hid (show L.take (q + 1) = l.take (q + 1) by rw [HT.out, HT2.out, HF.out])
                go_upto_region 15 with (fail)
                go_quiet (fail)
                go_wp2_with (fail)
                go_roundw
                case rel => exact ⟨q + 1, by go_num, by omega, HKX.out.drewN nq, HT3.out⟩
                case measure => simp [intOf]; omega
              · have hs : se = 9 := by
                  have := HSE3.out
                  rw [if_neg (HNE.out hxy)] at this
                  exact this.symm
                have HS9 := Lib.hid hs
                have hdf := nd_diff hxy
                clear hs hxy
                rcases hdf with b1' | ⟨rfl, b1'⟩ | ⟨rfl, rfl, b1'⟩ | ⟨rfl, rfl, rfl, b1'⟩ | ⟨rfl, rfl, rfl, rfl, b1'⟩ | ⟨rfl, rfl, rfl, rfl, rfl, b1'⟩
                · as_aux_lemma =>
                  go_upto_region 15 with (fail)
                  go_quiet (fail)
                  go_wp2_with (fail)
                  go_ret
                  exact ⟨ret_int HS9.out.symm, HKR.out.drewN nq⟩
                · as_aux_lemma =>
                  go_upto_region 15 with (fail)
                  go_quiet (fail)
                  go_wp2_with (fail)
                  go_ret
                  exact ⟨ret_int HS9.out.symm, HKR.out.drewN nq⟩
                · as_aux_lemma =>
                  go_upto_region 15 with (fail)
                  go_quiet (fail)
                  go_wp2_with (fail)
                  go_ret
                  exact ⟨ret_int HS9.out.symm, HKR.out.drewN nq⟩
                · as_aux_lemma =>
                  go_upto_region 15 with (fail)
                  go_quiet (fail)
                  go_wp2_with (fail)
                  go_ret
                  exact ⟨ret_int HS9.out.symm, HKR.out.drewN nq⟩
                · as_aux_lemma =>
                  go_upto_region 15 with (fail)
                  go_quiet (fail)
                  go_wp2_with (fail)
                  go_ret
                  exact ⟨ret_int HS9.out.symm, HKR.out.drewN nq⟩
                · as_aux_lemma =>
                  go_upto_region 15 with (fail)
                  go_quiet (fail)
                  go_wp2_with (fail)
                  go_ret
                  exact ⟨ret_int HS9.out.symm, HKR.out.drewN nq⟩
            · as_aux_lemma =>
              have hin2 : ¬ (q : Int) < (k : Int) := by omega
              have hs : se = 0 := by
                have h1 := HF.out
                rw [List.take_of_length_le (by rw [HLN.out]; omega), List.take_of_length_le (by rw [HN.out]; omega)] at h1
                have := HSE3.out
                rw [if_pos h1] at this
                exact this.symm
              have HS0 := Lib.hid hs
              clear hs
              go_wp2_with (fail)
              go_ret
              exact ⟨ret_int HS0.out.symm, HKR.out⟩
end Go.Proofs.YtnajbkccaclkcaaGreat

namespace Go.Proofs.YtnajbkccaclkcaaGreat
open Go Go.RowKit

/-- The sites of a list as flags. -/
def flags (L : List Int) : List Bool := (List.range 17).map fun n : Nat => decide ((n : Int) ∈ L)
theorem flags_len (L : List Int) : (flags L).length = 17 := by simp [flags]
theorem flags_get (L : List Int) (n : Nat) (h : n < 17) : (flags L)[n]? = some (decide ((n : Int) ∈ L)) := by simp [flags, h]
theorem flags_nil : flags [] = List.replicate 17 false := by decide
theorem flags_set (L : List Int) (n : Nat) (h : n < 17) : (flags L).set n true = flags (L ++ [(n : Int)]) := by
  refine List.ext_getElem? fun i => ?_
  rw [List.getElem?_set]
  by_cases hi : i < 17
  · rw [flags_get _ _ hi, flags_get _ _ hi]
    by_cases e : n = i
    · subst e; simp [flags_len, h]
    · simp [e]; intro e'; omega
  · rw [List.getElem?_eq_none (by rw [flags_len]; omega), List.getElem?_eq_none (by rw [flags_len]; omega)]
    rw [if_neg (by omega)]
/-- A roll's cells. -/
def rolA (I O : List Bool) (ep : Int) : Array Value := (I.map Value.bool ++ (O.map Value.bool ++ [Value.int .i64 ep])).toArray
theorem rolA_in (I O : List Bool) (ep : Int) (hI : I.length = 17) (n : Nat) (h : n < 17) (x : Bool) (hx : I[n]? = some x) : (rolA I O ep)[n]? = some (.bool x) := by
  unfold rolA
  rw [List.getElem?_toArray, List.getElem?_append_left (by simp; omega), List.getElem?_map, hx]
  rfl
theorem rolA_out (I O : List Bool) (ep : Int) (hI : I.length = 17) (hO : O.length = 17) (n : Nat) (h : n < 17) (x : Bool) (hx : O[n]? = some x) : (rolA I O ep)[17 + n]? = some (.bool x) := by
  unfold rolA
  rw [List.getElem?_toArray, List.getElem?_append_right (by simp; omega), List.length_map, hI, show 17 + n - 17 = n by omega, List.getElem?_append_left (by simp; omega), List.getElem?_map, hx]
  rfl
theorem rolA_setI (I O : List Bool) (ep : Int) (hI : I.length = 17) (n : Nat) (h : n < 17) : (rolA I O ep).setIfInBounds n (.bool true) = rolA (I.set n true) O ep := by
  unfold rolA
  rw [List.setIfInBounds_toArray, List.set_append_left _ _ (by simp; omega), List.map_set]
theorem rolA_setO (I O : List Bool) (ep : Int) (hI : I.length = 17) (hO : O.length = 17) (n : Nat) (h : n < 17) : (rolA I O ep).setIfInBounds (17 + n) (.bool true) = rolA I (O.set n true) ep := by
  unfold rolA
  rw [List.setIfInBounds_toArray, List.set_append_right _ _ (by simp; omega), List.length_map, hI, show 17 + n - 17 = n by omega, List.set_append_left _ _ (by simp; omega), List.map_set]
/-- A roll in memory. -/
def RolAt (w : World) (g : Nat) (J E : List Int) (ep : Int) : Prop := Box w g 128 (rolA (flags J) (flags E) ep)
section
variable {w w' : World} {g : Nat} {J E : List Int} {ep : Int}
theorem RolAt.in_ (h : RolAt w g J E ep) (n : Nat) (hn : n < 17) : w.cell? ⟨g, n, none⟩ = some (.bool (decide ((n : Int) ∈ J))) := by
  rw [Box.cell h n]
  exact rolA_in _ _ _ (flags_len _) n hn _ (flags_get _ _ hn)
theorem RolAt.out_ (h : RolAt w g J E ep) (n : Nat) (hn : n < 17) : w.cell? ⟨g, 17 + n, none⟩ = some (.bool (decide ((n : Int) ∈ E))) := by
  rw [Box.cell h (17 + n)]
  exact rolA_out _ _ _ (flags_len _) (flags_len _) n hn _ (flags_get _ _ hn)
theorem RolAt.setI (h : RolAt w g J E ep) (n : Nat) (hn : n < 17) : RolAt (w.setCell ⟨g, n, none⟩ (.bool true)) g (J ++ [(n : Int)]) E ep := by
  have := Box.set h n (.bool true)
  rwa [rolA_setI _ _ _ (flags_len _) n hn, flags_set _ _ hn] at this
theorem RolAt.setO (h : RolAt w g J E ep) (n : Nat) (hn : n < 17) : RolAt (w.setCell ⟨g, 17 + n, none⟩ (.bool true)) g J (E ++ [(n : Int)]) ep := by
  have := Box.set h (17 + n) (.bool true)
  rwa [rolA_setO _ _ _ (flags_len _) (flags_len _) n hn, flags_set _ _ hn] at this
theorem RolAt.kept (h : RolAt w g J E ep) (hk : Kept (fun _ => False) w w') : RolAt w' g J E ep := Box.kept h hk id
end
theorem RolAt.made (w : World) (ep : Int) : RolAt (w.alloc (.cells (rolA (flags []) (flags []) ep) 128)) w.heap.size [] [] ep := Box.new _ _ _
def hasN (J E : List Int) (n : Nat) : Bool := decide ((n : Int) ∈ J) && !decide ((n : Int) ∈ E)
set_option maxRecDepth 100000 in
set_option maxHeartbeats 1600000 in
theorem Has16_any (w : World) (g : Nat) (J E : List Int) (ep : Int) (n : Nat) (h1 : 1 ≤ n) (h2 : n ≤ 16) (h : RolAt w g J E ep) : Calls Tryz.prog 99 #[.pointer (some ⟨g, 0, none⟩), .int .i64 n] w fun e w' => e = .returned (.bool (hasN J E n)) ∧ w' = w := by
  have c0 := h.in_ n (by omega)
  have c1 := h.out_ n (by omega)
  have hs : siteB n = true := by unfold siteB; simp; omega
  have HS := Lib.hid (hs ▸ site16_any n w)
  have hi1 : (0 : Int) ≤ (n : Int) := by omega
  have hi2 : (n : Int) < 17 := by omega
  unfold hasN
  obtain ⟨b1, hb1⟩ : ∃ b1, decide ((n : Int) ∈ J) = b1 := ⟨_, rfl⟩
  obtain ⟨b2, hb2⟩ : ∃ b2, decide ((n : Int) ∈ E) = b2 := ⟨_, rfl⟩
  rw [hb1] at c0 ⊢
  rw [hb2] at c1 ⊢
  clear hb1 hb2 hs h
  cases b1 with
  | true =>
    go_enter Tryz.func99, Tryz.ntmps99
    go_wp2_with (fail)
    refine HS.out.mono ?_
    rintro r w2 ⟨rfl, rfl⟩
    go_wp2_with (fail)
    go_ret
    exact ⟨rfl, rfl⟩
  | false =>
    go_enter Tryz.func99, Tryz.ntmps99
    go_wp2_with (fail)
    refine HS.out.mono ?_
    rintro r w2 ⟨rfl, rfl⟩
    go_wp2_with (fail)
    go_ret
    exact ⟨rfl, rfl⟩
/-- The members below a number. -/
def memsTo (J E : List Int) : Nat → Nat
  | 0 => 0
  | n + 1 => memsTo J E n + if 1 ≤ n ∧ hasN J E n = true then 1 else 0
theorem memsTo_succ (J E : List Int) (n : Nat) : memsTo J E (n + 1) = memsTo J E n + if 1 ≤ n ∧ hasN J E n = true then 1 else 0 := rfl
theorem memsTo_le (J E : List Int) (n : Nat) : memsTo J E n ≤ n := by
  induction n with
  | zero => simp [memsTo]
  | succ n ih => rw [memsTo_succ]; split <;> omega
def MemPost (w : World) (n : Nat) (e : Ending) (w' : World) : Prop := ∃ A c, e = .returned (.slice A n c) ∧ Kept (fun _ => False) w w'
set_option maxRecDepth 100000 in
set_option maxHeartbeats 1600000 in
theorem Members16_any (w : World) (g : Nat) (J E : List Int) (ep : Int) (h : RolAt w g J E ep) : Calls Tryz.prog 74 #[.pointer (some ⟨g, 0, none⟩)] w (MemPost w (memsTo J E 17)) := by
  have HR := Lib.hid h
  obtain ⟨M, hM⟩ : ∃ M, memsTo J E 17 = M := ⟨_, rfl⟩
  rw [hM]
  have HM := Lib.hid hM
  clear h hM
  go_enter Tryz.func74, Tryz.ntmps74
  go_wp2_with (fail)
  go_loopw [3, 4] (fun vl vn wr => ∃ (n q : Nat) (xs : List Value) (A : Option Addr) (c : Nat), vl = .slice A q c ∧ vn = .int .i64 n ∧ 1 ≤ n ∧ n ≤ 17 ∧ q = memsTo J E n ∧ q ≤ 17 ∧ wr.ownsRow w.heap.size 3 1 (.slice A q c) q xs ∧ Kept (fun _ => False) w wr) (fun _ vn _ => 17 - (intOf vn).toNat)
  case atStart => exact ⟨1, 0, [], none, 0, rfl, rfl, Nat.le_refl _, by omega, rfl, by omega, World.ownsRow_nil _ _ _ _, Kept.refl _ _⟩
  case round =>
    obtain ⟨n, q, xs, A, c, rfl, rfl, hn1, hn2, hq, hql, hrow, hkw⟩ := hrel
    have HQ := Lib.hid hq
    have HROW := Lib.hid hrow
    have HKW := Lib.hid hkw
    clear hq hrow hkw
    by_cases hlt : n ≤ 16
    · have hin : (n : Int) ≤ 16 := by omega
      have HH := Lib.hid (Has16_any wr g J E ep n hn1 hlt (HR.out.kept HKW.out))
      obtain ⟨hb, hhb⟩ : ∃ hb, hasN J E n = hb := ⟨_, rfl⟩
      rw [hhb] at HH
      have HHB := Lib.hid hhb
      clear hhb
      cases hb with
      | false =>
        as_aux_lemma =>
        go_wp2_with (fail)
        refine HH.out.mono ?_
        rintro r w2 ⟨rfl, rfl⟩
        go_wp2_with (fail)
        go_roundw
        case rel => exact ⟨n + 1, q, xs, A, c, rfl, by go_num, by omega, by omega, by rw [memsTo_succ, ← HQ.out]; simp [HHB.out], hql, HROW.out, HKW.out⟩
        case measure => simp [intOf]; omega
      | true =>
        as_aux_lemma =>
        have hq1 := memsTo_le J E n
        have hqn : q ≤ n := by have := HQ.out; omega
        go_wp2_with (fail)
        refine HH.out.mono ?_
        rintro r w2 ⟨rfl, rfl⟩
        go_wp2_with (at_builtin; refine Hid.out ?_)
        refine Lib.hid ?_
        refine wpList_append_new eltInts rfl _ _ rfl w.heap.size _ q xs rfl HROW.out 1 1 rfl rfl rfl (by omega) HKW.out.size ?_
        intro A2 c2 w3 HO3 HK3 HG3
        have hk3 : Kept (fun _ => False) w w3 := HKW.out.trans HK3.out fun j hj h => by
          have := (HROW.out.lt j h).1
          omega
        have HK4 := Lib.hid hk3
        clear hk3 HK3 HG3
        go_wp2_with (fail)
        go_roundw
        case rel => exact ⟨n + 1, q + 1, _, A2, c2, rfl, by go_num, by omega, by omega, by rw [memsTo_succ, ← HQ.out, if_pos ⟨hn1, HHB.out⟩], by omega, HO3.out, HK4.out⟩
        case measure => simp [intOf]; omega
    · as_aux_lemma =>
      have hin : ¬ (n : Int) ≤ 16 := by omega
      have hM : q = M := by
        obtain rfl : n = 17 := by omega
        exact HQ.out.trans HM.out
      have HMM := Lib.hid hM
      clear hM
      go_wp2_with (fail)
      go_ret
      exact ⟨A, c, by rw [← HMM.out]; rfl, HKW.out⟩
end Go.Proofs.YtnajbkccaclkcaaGreat
