/- The plain law of NetMeans: what a book of the copies knows of a network. No condition. -/
import Derived.Test.YtopcogogpbcbhaaNRfP
import Derived.Test.YtopcogogpbcbhaaNTol
namespace Go.Proofs.Ytopcogogpbcbhaa
open Go.RowKit

/-- A copy that may have come of a frame. -/
structure OkC (c d : Cp) (n : Nat) : Prop where
  num : c.num = n
  dnum : d.num = n
  src : c.src = d.src
  dst : c.dst = d.dst
  sent : c.sent = d.sent
  clean : c.clean = d.data
  good : c.bad = false → c.data = d.data
  bad_ : c.bad = true → Apart c.data d.data
/-- The copies under way, by the book and by what is still there; their numbers are above j. -/
inductive Rl : Nat → List Cp → List Cc → List Bool → Prop
  | nil {j : Nat} : Rl j [] [] []
  | keep {j : Nat} {c : Cp} {l : List Cp} {b : Cc} {bk : List Cc} {th : List Bool} : OkC c b.c (j + 1) → Rl (j + 1) l bk th → Rl j (c :: l) (b :: bk) (true :: th)
  | skip {j : Nat} {l : List Cp} {b : Cc} {bk : List Cc} {th : List Bool} : Rl (j + 1) l bk th → Rl j l (b :: bk) (false :: th)
section
variable {j : Nat} {l : List Cp} {bk : List Cc} {th : List Bool}
theorem Rl.len (h : Rl j l bk th) : th.length = bk.length := by
  induction h with
  | nil => rfl
  | keep _ _ ih => simp [ih]
  | skip _ ih => simp [ih]
theorem Rl.up (h : Rl j l bk th) : ∀ c ∈ l, j < c.num ∧ c.num ≤ j + bk.length := by
  induction h with
  | nil => intro c hc; cases hc
  | keep h1 _ ih =>
    intro c hc
    rw [List.length_cons]
    rcases List.mem_cons.1 hc with e | e
    · subst e; rw [h1.num]; omega
    · have := ih c e; omega
  | skip _ ih => intro c hc; have := ih c hc; rw [List.length_cons]; omega
theorem Rl.add (h : Rl j l bk th) {c : Cp} {b : Cc} (hc : OkC c b.c (j + bk.length + 1)) : Rl j (l ++ [c]) (bk ++ [b]) (th ++ [true]) := by
  induction h with
  | nil => exact .keep (by simpa using hc) .nil
  | keep h1 _ ih => exact .keep h1 (ih (by rw [List.length_cons] at hc; rwa [show ∀ a b : Nat, a + 1 + b + 1 = a + (b + 1) + 1 by omega]))
  | skip _ ih => exact .skip (ih (by rw [List.length_cons] at hc; rwa [show ∀ a b : Nat, a + 1 + b + 1 = a + (b + 1) + 1 by omega]))
theorem Rl.map {f : Cp → Cp} (h : Rl j l bk th) (hf : ∀ c ∈ l, ∀ d n, OkC c d n → OkC (f c) d n) : Rl j (l.map f) bk th := by
  induction h with
  | nil => exact .nil
  | keep h1 _ ih => exact .keep (hf _ (List.mem_cons.2 (.inl rfl)) _ _ h1) (ih fun c hc => hf c (List.mem_cons.2 (.inr hc)))
  | skip _ ih => exact .skip (ih hf)
theorem filter_all {n : Int} (h : ∀ c ∈ l, ¬ (c.num : Int) = n) : l.filter (fun c => !c.is n) = l := List.filter_eq_self.2 fun c hc => by simp [Cp.is, h c hc]
theorem Rl.off (h : Rl j l bk th) {n : Int} {i : Nat} (hn : n = ((j + i + 1 : Nat) : Int)) (hi : i < th.length) : Rl j (l.filter fun c => !c.is n) bk (th.set i false) := by
  induction h generalizing i with
  | nil => simp at hi
  | @keep j c l b bk th h1 h2 ih =>
    cases i with
    | zero =>
      have hc : (!c.is n) = false := by simp [Cp.is, h1.num, hn]
      rw [List.filter_cons, hc, List.set_cons_zero]
      rw [if_neg (by simp), filter_all fun d hd => by have := (h2.up d hd).1; omega]
      exact .skip h2
    | succ i =>
      have hc : (!c.is n) = true := by
        simp only [Cp.is, h1.num, hn, Bool.not_eq_true', decide_eq_false_iff_not]
        omega
      rw [List.filter_cons, if_pos hc, List.set_cons_succ]
      exact .keep h1 (ih (by omega) (by simpa using hi))
  | @skip j l b bk th h2 ih =>
    cases i with
    | zero =>
      rw [List.set_cons_zero, filter_all fun d hd => by have := (h2.up d hd).1; omega]
      exact .skip h2
    | succ i =>
      rw [List.set_cons_succ]
      exact .skip (ih (by omega) (by simpa using hi))
theorem Rl.get (h : Rl j l bk th) {c : Cp} (hc : c ∈ l) : ∃ i, ∃ (h1 : i < bk.length) (h2 : i < th.length), c.num = j + i + 1 ∧ th[i] = true ∧ OkC c bk[i].c (j + i + 1) := by
  induction h with
  | nil => cases hc
  | @keep j c' l b bk th h1 h2 ih =>
    rcases List.mem_cons.1 hc with e | e
    · subst e
      exact ⟨0, by simp, by simp, h1.num, rfl, h1⟩
    · obtain ⟨i, g1, g2, g3, g4, g5⟩ := ih e
      have e9 : j + (i + 1) + 1 = j + 1 + i + 1 := by omega
      exact ⟨i + 1, by simpa using g1, by simpa using g2, by omega, by simpa using g4, by rw [e9]; exact g5⟩
  | @skip j l b bk th h2 ih =>
    obtain ⟨i, g1, g2, g3, g4, g5⟩ := ih hc
    have e9 : j + (i + 1) + 1 = j + 1 + i + 1 := by omega
    exact ⟨i + 1, by simpa using g1, by simpa using g2, by omega, by simpa using g4, by rw [e9]; exact g5⟩
/-- Read from place m on, where k copies were found. -/
theorem Rl.at_true {m k : Nat} (h : Rl m (l.drop k) (bk.drop m) (th.drop m)) (hm : m < bk.length) (hm' : m < th.length) (ht : th[m] = true) : ∃ hk : k < l.length, OkC l[k] bk[m].c (m + 1) ∧ Rl (m + 1) (l.drop (k + 1)) (bk.drop (m + 1)) (th.drop (m + 1)) := by
  rw [List.drop_eq_getElem_cons hm, List.drop_eq_getElem_cons hm', ht] at h
  generalize hL : l.drop k = L at h
  cases h with
  | keep h1 h2 =>
    rename_i c l'
    have hk : k < l.length := by
      rcases Nat.lt_or_ge k l.length with h | h
      · exact h
      · rw [List.drop_of_length_le h] at hL; cases hL
    rw [List.drop_eq_getElem_cons hk] at hL
    injection hL with e1 e2
    exact ⟨hk, by rw [e1]; exact h1, by rw [e2]; exact h2⟩
theorem Rl.at_false {m k : Nat} (h : Rl m (l.drop k) (bk.drop m) (th.drop m)) (hm : m < bk.length) (hm' : m < th.length) (ht : th[m] = false) : Rl (m + 1) (l.drop k) (bk.drop (m + 1)) (th.drop (m + 1)) := by
  rw [List.drop_eq_getElem_cons hm, List.drop_eq_getElem_cons hm', ht] at h
  generalize hL : l.drop k = L at h ⊢
  cases h with
  | skip h2 => exact h2
theorem Rl.at_end {m k : Nat} (h : Rl m (l.drop k) (bk.drop m) (th.drop m)) (hm : bk.length ≤ m) : l.length ≤ k := by
  rw [List.drop_of_length_le hm] at h
  generalize hL : l.drop k = L at h
  generalize th.drop m = T at h
  cases h
  have := congrArg List.length hL
  rw [List.length_drop, List.length_nil] at this
  omega
end
theorem alterD_get {d b : List Int} {m j : Nat} (hm : m + b.length ≤ d.length) (h : j < m ∨ m + b.length ≤ j) : (alterD d m b)[j]? = d[j]? := by
  unfold alterD
  rcases h with h | h
  · rw [List.getElem?_append_left (by rw [List.length_append, List.length_take]; omega), List.getElem?_append_left (by rw [List.length_take]; omega), List.getElem?_take, if_pos h]
  · rw [List.getElem?_append_right (by rw [List.length_append, List.length_take]; omega), List.getElem?_drop, List.length_append, List.length_take]
    congr 1
    omega
theorem apart_alter {d : List Int} {a : Int} {b : List Int} (h : alterOk d a b = true) : Apart (alterD d a.toNat b) d := by
  unfold alterOk at h
  simp only [Bool.and_eq_true, decide_eq_true_eq, Bool.not_eq_true', decide_eq_false_iff_not] at h
  obtain ⟨⟨h1, h2, h3, h4⟩, h5⟩ := h
  obtain ⟨m, rfl⟩ : ∃ m : Nat, a = (m : Int) := ⟨a.toNat, by omega⟩
  rw [Int.toNat_natCast] at h5 ⊢
  have hlen : (alterD d m b).length = d.length := by
    unfold alterD
    rw [List.length_append, List.length_append, List.length_take, List.length_drop]
    omega
  refine .inr ⟨hlen, fun e => h5 ?_, m, fun j hj hj' hne => ?_⟩
  · have e2 := congrArg (fun l : List Int => (l.drop m).take b.length) e
    change ((alterD d m b).drop m).take b.length = (d.drop m).take b.length at e2
    rw [← e2]
    unfold alterD
    rw [List.append_assoc, List.drop_append, List.drop_of_length_le (by rw [List.length_take]; omega), List.nil_append, List.length_take, show m - min m d.length = 0 by omega, List.drop_zero, List.take_append_of_le_length (Nat.le_refl _), List.take_length]
  · by_cases hin : m ≤ j ∧ j < m + b.length
    · omega
    · refine absurd ?_ hne
      have e := alterD_get (d := d) (b := b) (m := m) (j := j) (by omega) (by omega)
      rw [List.getElem?_eq_getElem hj, List.getElem?_eq_getElem hj'] at e
      injection e
theorem apart_cut {d : List Int} {k : Int} (h : cutOk d k = true) : Apart (d.take k.toNat) d := by
  unfold cutOk at h
  simp only [decide_eq_true_eq] at h
  refine .inl ⟨by rw [List.length_take]; omega, ?_⟩
  rw [List.length_take, Nat.min_eq_left (by omega)]
theorem Nt.deliver_off (s : Nt) (n : Int) : (s.deliver n).2.l = s.l.filter (fun c => !c.is n) ∧ (s.deliver n).2.last = s.last := by
  unfold Nt.deliver
  cases hg : s.get n with
  | none =>
    refine ⟨(filter_all fun c hc e => ?_).symm, rfl⟩
    unfold Nt.get at hg
    have := List.find?_eq_none.1 hg c hc
    simp [Cp.is, e] at this
  | some c => exact ⟨rfl, rfl⟩
theorem Rl.chg {bk : List Cc} {th : List Bool} {s : Nt} {n : Int} (h : Rl 0 s.l bk th) (hok : s.Ok) {c : Cp} (hg : s.get n = some c) (hb : c.bad = false) {d : List Int} (hd : Apart d c.data) : Rl 0 (s.put n d).l bk th := by
  refine h.map fun x hx y m hxy => ?_
  split
  · rename_i hi
    obtain ⟨i, hi', rfl⟩ := List.getElem_of_mem hx
    have hxn : (s.l[i].num : Int) = n := by simpa [Cp.is] using hi
    have e := hok.get_at hi' hxn
    rw [hg] at e
    injection e with e
    subst e
    refine ⟨hxy.num, hxy.dnum, hxy.src, hxy.dst, hxy.sent, hxy.clean, fun e => (by cases e), fun _ => ?_⟩
    show Apart d y.data
    rw [← hxy.good hb]
    exact hd
  · exact hxy
/-- What one step leaves, by the book. -/
structure MeNone (s' : Nt) (x : Stn) (bk : List Cc) (th : List Bool) : Prop where
  last : s'.last = bk.length
  off : (x.kind = 2 ∨ x.kind = 3) → ∀ i, i < th.length → x.num = ((i + 1 : Nat) : Int) → Rl 0 s'.l bk (th.set i false)
  out : (x.kind = 2 ∨ x.kind = 3) → ¬ (1 ≤ x.num ∧ x.num ≤ bk.length) → Rl 0 s'.l bk th
  other : ¬ (x.kind = 2 ∨ x.kind = 3) → Rl 0 s'.l bk th
structure MeNew (s' : Nt) (x : Stn) (bk : List Cc) (th : List Bool) : Prop where
  last : s'.last = bk.length + 1
  how : (x.kind = 1 ∧ ∀ A cap, Rl 0 s'.l (bk ++ [⟨⟨bk.length + 1, x.src, x.dst, x.at_, x.data, x.data, false⟩, A, cap⟩]) (th ++ [true])) ∨
    (x.kind = 4 ∧ ∃ i, ∃ (h1 : i < bk.length) (h2 : i < th.length), x.num = ((i + 1 : Nat) : Int) ∧ th[i] = true ∧ Rl 0 s'.l (bk ++ [⟨{ bk[i].c with num := bk.length + 1 }, bk[i].A, bk[i].cap⟩]) (th ++ [true]))
theorem Rl.step {bk : List Cc} {th : List Bool} {s : Nt} (h : Rl 0 s.l bk th) (hok : s.Ok) (hl : s.last = bk.length) (x : Stn) :
    ((s.step x).1 = 0 ∧ MeNone (s.step x).2 x bk th) ∨ ((s.step x).1 = ((bk.length + 1 : Nat) : Int) ∧ MeNew (s.step x).2 x bk th) := by
  have same : ∀ s' : Nt, s'.last = s.last → Rl 0 s'.l bk th → ¬ (x.kind = 2 ∨ x.kind = 3) → MeNone s' x bk th := fun s' h1 h2 h3 => ⟨h1.trans hl, fun h => absurd h h3, fun h => absurd h h3, fun _ => h2⟩
  have offd : (x.kind = 2 ∨ x.kind = 3) → MeNone (s.deliver x.num).2 x bk th := fun hx => by
    obtain ⟨h1, h2⟩ := s.deliver_off x.num
    refine ⟨h2.trans hl, fun _ i hi hn => ?_, fun _ hn => ?_, fun h => absurd hx h⟩
    · rw [h1]; exact h.off (by rw [hn]; congr 1; omega) hi
    · rw [h1, filter_all fun c hc => by have := h.up c hc; omega]; exact h
  unfold Nt.step
  split
  · rename_i hk
    unfold Nt.send
    split
    · refine .inr ⟨by simp only [hl], ⟨by show s.last + 1 = _; omega, .inl ⟨hk, fun A cap => h.add ?_⟩⟩⟩
      rw [Nat.zero_add, ← hl]
      exact ⟨rfl, rfl, rfl, rfl, rfl, rfl, fun _ => rfl, fun e => by cases e⟩
    · exact .inl ⟨rfl, same _ rfl h (by omega)⟩
  split
  · rename_i hk
    exact .inl ⟨rfl, offd (.inl hk)⟩
  split
  · rename_i hk
    exact .inl ⟨rfl, offd (.inr hk)⟩
  split
  · rename_i hk
    unfold Nt.double
    cases hg : s.get x.num with
    | none => exact .inl ⟨rfl, same _ rfl h (by omega)⟩
    | some c =>
      obtain ⟨hm, hn⟩ := Nt.get_mem hg
      obtain ⟨i, h1, h2, h3, h4, h5⟩ := h.get hm
      refine .inr ⟨by simp only [hl], ⟨by show s.last + 1 = _; omega, .inr ⟨hk, i, h1, h2, by rw [← hn, h3]; congr 1; omega, h4, h.add ?_⟩⟩⟩
      rw [Nat.zero_add, ← hl]
      exact ⟨rfl, rfl, h5.src, h5.dst, h5.sent, h5.clean, fun _ => h5.clean, fun e => by cases e⟩
  split
  · rename_i hk
    refine .inl ⟨rfl, same _ ?_ ?_ (by omega)⟩
    · exact (s.alter_chg x.num x.at_ x.data).last
    · unfold Nt.alter
      cases hg : s.get x.num with
      | none => exact h
      | some c =>
        simp only
        split
        · split
          · exact h
          · exact h.chg hok hg (by simpa using ‹¬ c.bad = true›) (apart_alter ‹_›)
        · exact h
  split
  · rename_i hk
    refine .inl ⟨rfl, same _ ?_ ?_ (by omega)⟩
    · exact (s.cut_chg x.num x.at_).last
    · unfold Nt.cut
      cases hg : s.get x.num with
      | none => exact h
      | some c =>
        simp only
        split
        · split
          · exact h
          · exact h.chg hok hg (by simpa using ‹¬ c.bad = true›) (apart_cut ‹_›)
        · exact h
  · rename_i h2 h3 _ _ _
    exact .inl ⟨rfl, same _ rfl h (by omega)⟩
end Go.Proofs.Ytopcogogpbcbhaa
