/- The plain law of NetApart: what one copy goes through makes no difference to another one. No condition. -/
import Derived.Test.YtopcogogpbcbhaaNNw
namespace Go.Proofs.Ytopcogogpbcbhaa
open Go.RowKit

theorem Nt.step_form (s : Nt) (x : Stn) (h1 : x.kind ≠ 1) (h4 : x.kind ≠ 4) : (s.step x).2.l = s.l ∨ (s.step x).2.l = s.l.filter (fun c => !c.is x.num) ∨ ∃ d, (s.step x).2.l = s.l.map fun c => if c.is x.num = true then c.turn d else c := by
  unfold Nt.step
  rw [if_neg h1]
  split
  · unfold Nt.deliver
    split
    · exact .inl rfl
    · exact .inr (.inl rfl)
  split
  · unfold Nt.deliver
    split
    · exact .inl rfl
    · exact .inr (.inl rfl)
  split
  · unfold Nt.alter
    split
    · exact .inl rfl
    · split
      · split
        · exact .inl rfl
        · exact .inr (.inr ⟨_, rfl⟩)
      · exact .inl rfl
  split
  · unfold Nt.cut
    split
    · exact .inl rfl
    · split
      · split
        · exact .inl rfl
        · exact .inr (.inr ⟨_, rfl⟩)
      · exact .inl rfl
  · exact .inl rfl
/-- Of two rows of copies the second is as the first, but for those of one number. -/
inductive Al (n : Int) : List Cp → List Cp → Prop
  | nil : Al n [] []
  | other {c : Cp} {l m : List Cp} : ¬ (c.num : Int) = n → Al n l m → Al n (c :: l) (c :: m)
  | kept {c d : Cp} {l m : List Cp} : (c.num : Int) = n → (d.num : Int) = n → Al n l m → Al n (c :: l) (d :: m)
  | gone {c : Cp} {l m : List Cp} : (c.num : Int) = n → (∀ d ∈ m, ¬ (d.num : Int) = n) → Al n l m → Al n (c :: l) m
theorem Al.refl (n : Int) : ∀ l : List Cp, Al n l l
  | [] => .nil
  | c :: l => by
    by_cases h : (c.num : Int) = n
    · exact .kept h h (Al.refl n l)
    · exact .other h (Al.refl n l)
theorem Al.off (n : Int) : ∀ l : List Cp, Al n l (l.filter fun c => !c.is n)
  | [] => .nil
  | c :: l => by
    by_cases h : (c.num : Int) = n
    · have : (!c.is n) = false := by simp [Cp.is, h]
      rw [List.filter_cons, this]
      refine .gone h (fun d hd => ?_) (Al.off n l)
      have := (List.mem_filter.1 hd).2
      simpa [Cp.is] using this
    · have : (!c.is n) = true := by simp [Cp.is, h]
      rw [List.filter_cons, this]
      exact .other h (Al.off n l)
theorem Al.put (n : Int) (d : List Int) : ∀ l : List Cp, Al n l (l.map fun c => if c.is n = true then c.turn d else c)
  | [] => .nil
  | c :: l => by
    by_cases h : (c.num : Int) = n
    · have : c.is n = true := by simp [Cp.is, h]
      rw [List.map_cons, if_pos this]
      exact .kept h h (Al.put n d l)
    · have : ¬ c.is n = true := by simp [Cp.is, h]
      rw [List.map_cons, if_neg this]
      exact .other h (Al.put n d l)
theorem Nt.step_al (s : Nt) (x : Stn) (h1 : x.kind ≠ 1) (h4 : x.kind ≠ 4) : Al x.num s.l (s.step x).2.l := by
  rcases s.step_form x h1 h4 with h | h | ⟨d, h⟩
  · rw [h]; exact Al.refl _ _
  · rw [h]; exact Al.off _ _
  · rw [h]; exact Al.put _ _ _
theorem Al.len {n : Int} {l m : List Cp} (h : Al n l m) : m.length ≤ l.length := by
  induction h with
  | nil => exact Nat.le_refl _
  | other _ _ ih => simp only [List.length_cons]; omega
  | kept _ _ _ ih => simp only [List.length_cons]; omega
  | gone _ _ _ ih => simp only [List.length_cons]; omega
theorem find_last {l : List Cp} {c : Cp} {v : Int} (hl : ∀ x ∈ l, ¬ (x.num : Int) = v) (hc : (c.num : Int) = v) : (l ++ [c]).find? (Cp.is v) = some c := by
  rw [List.find?_append, List.find?_eq_none.2 fun x hx => by simp [Cp.is, hl x hx]]
  simp [Cp.is, hc]
/-- A double is not touched by what its original goes through. -/
theorem Nt.double_get (s : Nt) (hok : s.Ok) (x : Stn) (h1 : x.kind ≠ 1) (h4 : x.kind ≠ 4) (h : (s.double x.num).1.2 = 0) : ∃ c, (((s.double x.num).2.step x).2.deliver (s.double x.num).1.1).1 = (c, 0) ∧ c.bad = false := by
  unfold Nt.double at h ⊢
  cases hg : s.get x.num with
  | none => rw [hg] at h; exact absurd (show (11 : Int) = 0 from h) (by decide)
  | some c =>
    simp only
    obtain ⟨hm, hn⟩ := Nt.get_mem hg
    have hle := hok.le c hm
    have hne : ¬ (((s.last + 1 : Nat) : Int)) = x.num := by omega
    have hall : ∀ y ∈ s.l, ¬ (y.num : Int) = ((s.last + 1 : Nat) : Int) := fun y hy => by have := hok.le y hy; omega
    obtain ⟨N, hN⟩ : ∃ N : Cp, N = ⟨s.last + 1, c.src, c.dst, c.sent, c.clean, c.clean, false⟩ := ⟨_, rfl⟩
    have hl : (s.add c.src c.dst c.sent c.clean).l = s.l ++ [N] := by rw [hN]; rfl
    have hNn : (N.num : Int) = ((s.last + 1 : Nat) : Int) := by rw [hN]
    have hNi : N.is x.num = false := by simp only [Cp.is, decide_eq_false_iff_not]; omega
    have hget : (((s.add c.src c.dst c.sent c.clean).step x).2).get ((s.last + 1 : Nat) : Int) = some N := by
      unfold Nt.get
      rcases (s.add c.src c.dst c.sent c.clean).step_form x h1 h4 with h | h | ⟨d, h⟩
      · rw [h, hl]
        exact find_last hall hNn
      · rw [h, hl, List.filter_append, List.filter_cons, hNi]
        exact find_last (fun y hy => hall y (List.mem_filter.1 hy).1) hNn
      · rw [h, hl, List.map_append, List.map_cons, hNi]
        refine find_last (fun y hy => ?_) hNn
        obtain ⟨z, hz, rfl⟩ := List.mem_map.1 hy
        rw [Cp.turn_num]
        exact hall z hz
    refine ⟨N, ?_, by rw [hN]⟩
    unfold Nt.deliver
    rw [hget]
theorem Nt.double_no (s : Nt) (n : Int) (h : ¬ (s.double n).1.2 = 0) : (s.double n).1.1 = 0 := by
  unfold Nt.double at h ⊢
  cases hg : s.get n with
  | none => rfl
  | some c => rw [hg] at h; exact absurd rfl h
/-- The step that NetApart plays. -/
def Stn.on (x : Stn) (num : Int) : Stn := { x with num := num, kind := if x.kind = 1 ∨ x.kind = 4 then 5 else x.kind }
theorem Stn.on_kind (x : Stn) (num : Int) : (x.on num).kind ≠ 1 ∧ (x.on num).kind ≠ 4 := by
  show (if x.kind = 1 ∨ x.kind = 4 then (5 : Int) else x.kind) ≠ 1 ∧ (if x.kind = 1 ∨ x.kind = 4 then (5 : Int) else x.kind) ≠ 4
  split
  · decide
  · omega
end Go.Proofs.Ytopcogogpbcbhaa
