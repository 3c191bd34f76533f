/- The plain law of a Peer's talk: what both texts keep and answer, as functions on numbers; no program in sight. -/
namespace Go.Proofs.Ytadamldglebgmaa

/-- What a Peer keeps. -/
structure St where
  window : Int
  push : Int
  last : Int
  fl : List Int
  got : Int
  credit : Int

/-- What holds of a Peer at all times. -/
structure Good (s : St) : Prop where
  w0 : 0 ≤ s.window
  w1 : s.window ≤ 64
  p0 : 0 ≤ s.push
  p1 : s.push ≤ 256
  l0 : 0 ≤ s.last
  l1 : s.last ≤ 2147483647
  c0 : 0 ≤ s.credit
  c1 : s.credit ≤ 256
  g0 : 0 ≤ s.got
  g1 : s.got ≤ 2147483647
  len : (s.fl.length : Int) ≤ s.window
  rise : s.fl.Pairwise (· < ·)
  in_ : ∀ x ∈ s.fl, 1 ≤ x ∧ x ≤ s.last

def St.sends (s : St) (lacks : Int) : Bool := decide (1 ≤ lacks) && decide (s.window ≠ 0)
def St.full (s : St) : Bool := decide (s.window ≤ (s.fl.length : Int))
def St.next (s : St) : Int := if s.last < 2147483647 then s.last + 1 else s.last
def St.count (s : St) (lacks : Int) : Int := min (min lacks s.push) (max 1 s.credit)
def St.num (s : St) : Int := if s.full then s.fl.headD 0 else s.next
def St.sent (s : St) (lacks : Int) : St :=
  if s.sends lacks then
    if s.full then s
    else { s with last := s.next, fl := if s.next ∈ s.fl then s.fl else s.fl ++ [s.next] }
  else s
def St.sendNum (s : St) (lacks : Int) : Int := if s.sends lacks then s.num else 0
def St.sendCount (s : St) (lacks : Int) : Int := if s.sends lacks then s.count lacks else 0

def St.heard (s : St) (num got credit : Int) : St :=
  { s with got := if 1 ≤ num ∧ num ≤ 2147483647 then max s.got num else s.got, credit := max 0 (min credit 256), fl := s.fl.filter (got < ·) }
def St.heardSome (s : St) (got : Int) : Bool := decide ((s.fl.filter (got < ·)).length < s.fl.length)
def St.clear (s : St) : St := { s with fl := [] }

theorem Good.next_bd {s : St} (h : Good s) : 1 ≤ s.next ∧ s.next ≤ 2147483647 ∧ s.last ≤ s.next := by
  have := h.l0; have := h.l1; unfold St.next; split <;> omega

theorem Good.next_min {s : St} (h : Good s) : s.next = min (s.last + 1) 2147483647 := by
  have := h.l0; have := h.l1; unfold St.next; split <;> omega

theorem Good.sent {s : St} (h : Good s) (lacks : Int) : Good (s.sent lacks) := by
  unfold St.sent
  split
  · split
    · exact h
    · rename_i hf
      have hb := h.next_bd
      have hf' : (s.fl.length : Int) < s.window := by simpa [St.full] using hf
      by_cases hm : s.next ∈ s.fl
      · simp only [hm, if_true]
        exact ⟨h.w0, h.w1, h.p0, h.p1, by show 0 ≤ s.next; omega, by show s.next ≤ _; omega, h.c0, h.c1, h.g0, h.g1, h.len, h.rise, fun x hx => ⟨(h.in_ x hx).1, by have := (h.in_ x hx).2; show x ≤ s.next; omega⟩⟩
      · simp only [hm, if_false]
        refine ⟨h.w0, h.w1, h.p0, h.p1, by show 0 ≤ s.next; omega, by show s.next ≤ _; omega, h.c0, h.c1, h.g0, h.g1, ?_, ?_, ?_⟩
        · show ((s.fl ++ [s.next]).length : Int) ≤ s.window
          simp; omega
        · show (s.fl ++ [s.next]).Pairwise (· < ·)
          rw [List.pairwise_append]
          refine ⟨h.rise, by simp, fun x hx y hy => ?_⟩
          simp at hy; subst hy
          have := (h.in_ x hx).2
          have : x ≠ s.next := fun e => hm (e ▸ hx)
          omega
        · intro x hx
          show 1 ≤ x ∧ x ≤ s.next
          have hx' : x ∈ s.fl ++ [s.next] := hx
          rcases List.mem_append.1 hx' with h1 | h1
          · have := h.in_ x h1; omega
          · simp at h1; omega
  · exact h

theorem Good.heard {s : St} (h : Good s) (num got credit : Int) : Good (s.heard num got credit) := by
  have := h.g0; have := h.g1
  refine ⟨h.w0, h.w1, h.p0, h.p1, h.l0, h.l1, ?_, ?_, ?_, ?_, ?_, ?_, ?_⟩
  · show 0 ≤ max 0 (min credit 256); omega
  · show max 0 (min credit 256) ≤ 256; omega
  · show 0 ≤ if 1 ≤ num ∧ num ≤ 2147483647 then max s.got num else s.got; split <;> omega
  · show (if 1 ≤ num ∧ num ≤ 2147483647 then max s.got num else s.got) ≤ _; split <;> omega
  · show ((s.fl.filter (got < ·)).length : Int) ≤ s.window
    have := List.length_filter_le (fun x => decide (got < x)) s.fl
    have := h.len; omega
  · exact h.rise.filter _
  · intro x hx
    exact h.in_ x ((List.mem_filter.1 hx).1)

theorem Good.clear {s : St} (h : Good s) : Good s.clear :=
  ⟨h.w0, h.w1, h.p0, h.p1, h.l0, h.l1, h.c0, h.c1, h.g0, h.g1, by show ((([] : List Int).length : Nat) : Int) ≤ s.window; simpa using h.w0, List.Pairwise.nil, by intro x hx; cases hx⟩

/-- The last number of a rising list is in it just if the number is the greatest. -/
theorem mem_of_top {l : List Int} (hr : l.Pairwise (· < ·)) {m : Int} (hm : ∀ x ∈ l, x ≤ m) : m ∈ l ↔ l ≠ [] ∧ l[l.length - 1]?.getD 0 = m := by
  constructor
  · intro h
    have hne : l ≠ [] := by rintro rfl; cases h
    have hpos : 0 < l.length := List.length_pos_iff.2 hne
    refine ⟨hne, ?_⟩
    obtain ⟨i, hi, he⟩ := List.getElem_of_mem h
    rw [List.getElem?_eq_getElem (by omega), Option.getD_some]
    rcases Nat.lt_or_ge i (l.length - 1) with h1 | h1
    · have h2 := List.pairwise_iff_getElem.1 hr i (l.length - 1) hi (by omega) h1
      have h3 := hm _ (List.getElem_mem (show l.length - 1 < l.length by omega))
      omega
    · obtain rfl : i = l.length - 1 := by omega
      exact he
  · rintro ⟨hne, he⟩
    have hpos : 0 < l.length := List.length_pos_iff.2 hne
    rw [List.getElem?_eq_getElem (by omega), Option.getD_some] at he
    rw [← he]
    exact List.getElem_mem _

/-- Of a rising list the numbers at most g are its first ones. -/
theorem filter_drop {l : List Int} (hr : l.Pairwise (· < ·)) (g : Int) (n : Nat) (hn : n ≤ l.length) (h1 : ∀ j (hj : j < l.length), j < n → l[j] ≤ g) (h2 : ∀ h : n < l.length, g < l[n]) :
    l.filter (g < ·) = l.drop n := by
  induction l generalizing n with
  | nil => simp
  | cons x l ih =>
    cases n with
    | zero =>
      have hx : g < x := h2 (by simp)
      rw [List.drop_zero, List.filter_eq_self.2]
      intro y hy
      rcases List.mem_cons.1 hy with rfl | hy
      · simpa using hx
      · have := (List.pairwise_cons.1 hr).1 y hy
        simp; omega
    | succ n =>
      have hx : x ≤ g := h1 0 (by simp) (by omega)
      rw [List.filter_cons_of_neg (by simpa using hx), List.drop_succ_cons]
      exact ih (List.pairwise_cons.1 hr).2 n (by simpa using hn) (fun j hj hjn => h1 (j + 1) (by simpa using hj) (by omega)) (fun h => h2 (by simpa using h))
end Go.Proofs.Ytadamldglebgmaa
