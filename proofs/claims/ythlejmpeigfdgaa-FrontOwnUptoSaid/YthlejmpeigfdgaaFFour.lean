/- Vectors in a list of vectors, each with memory of its own: one dot written, one gone on from. No condition. -/
import Derived.Test.YthlejmpeigfdgaaFWas
namespace Go.Proofs.Ythlejmpeigfdgaa
open Go Go.RowKit

structure FourAt (W0 W : World) (Y : Nat) (es : List Wl) : Prop where
  box : Box W Y 31 (wasV es)
  y : W0.heap.size ≤ Y
  own : ∀ i (h : i < es.length), W.ownsRow W0.heap.size 56 2 es[i].v es[i].l.length (dots es[i].l)
  ap : ∀ i (hi : i < es.length) j (hj : j < es.length), i ≠ j → ∀ k, es[i].v.ownBlock = some k → es[j].v.ownBlock ≠ some k
  ne : ∀ i (h : i < es.length), es[i].v.ownBlock ≠ some Y
  kept : Kept (fun _ => False) W0 W
section
variable {W0 W W' : World} {Y : Nat} {es : List Wl}
theorem FourAt.fresh (h : FourAt W0 W Y es) (hk : Kept (fun _ => False) W W') : FourAt W0 W' Y es :=
  ⟨h.box.kept hk id, h.y, fun i hi => hk.own (h.own i hi) fun _ _ => id, h.ap, h.ne, h.kept.trans hk fun _ _ e => e⟩
theorem FourAt.put (h : FourAt W0 W Y es) {k : Nat} (hk : k < es.length) {x : Wl} (hK : Kept (fun j => es[k].v.ownBlock = some j ∨ j = Y) W W') (hb : Box W' Y 31 (wasV (es.set k x)))
    (ho : W'.ownsRow W0.heap.size 56 2 x.v x.l.length (dots x.l)) (hg : ∀ b, x.v.ownBlock = some b → es[k].v.ownBlock = some b ∨ W.heap.size ≤ b) : FourAt W0 W' Y (es.set k x) := by
  refine ⟨hb, h.y, fun i hi => ?_, fun i hi j hj hij b e => ?_, fun i hi => ?_, h.kept.trans hK fun b e1 e2 => ?_⟩
  · rw [List.length_set] at hi
    by_cases e : k = i
    · subst e
      rw [List.getElem_set_self]
      exact ho
    · rw [List.getElem_set_ne e]
      exact hK.own (h.own i hi) fun b e1 e2 => e2.elim (fun e2 => h.ap k hk i hi e b e2 e1) (fun e2 => h.ne i hi (e2 ▸ e1))
  · rw [List.length_set] at hi hj
    by_cases e1 : k = i
    · subst e1
      rw [List.getElem_set_self] at e
      rw [List.getElem_set_ne hij]
      intro e2
      rcases hg b e with e3 | e3
      · exact h.ap k hk j hj hij b e3 e2
      · have := ((h.own j hj).lt b e2).2; omega
    · rw [List.getElem_set_ne e1] at e
      by_cases e2 : k = j
      · subst e2
        rw [List.getElem_set_self]
        intro e3
        rcases hg b e3 with e4 | e4
        · exact h.ap i hi k hk hij b e e4
        · have := ((h.own i hi).lt b e).2; omega
      · rw [List.getElem_set_ne e2]
        exact h.ap i hi j hj hij b e
  · rw [List.length_set] at hi
    by_cases e : k = i
    · subst e
      rw [List.getElem_set_self]
      intro e2
      rcases hg Y e2 with e3 | e3
      · exact h.ne k hk e3
      · have := h.box.lt; omega
    · rw [List.getElem_set_ne e]
      exact h.ne i hi
  · rcases e2 with e2 | e2
    · have := ((h.own k hk).lt b e2).1; omega
    · have := h.y; omega
theorem FourAt.at (h : FourAt W0 W Y es) {k : Nat} (hk : k < es.length) : W.cell? ⟨Y, k, none⟩ = some es[k].v ∧ W.frozen? ⟨Y, k, none⟩ = false := by
  rw [h.box.cell, wasV_get _ _ hk]
  exact ⟨rfl, h.box.frozen k⟩
theorem FourAt.dot (h : FourAt W0 W Y es) {k : Nat} (hk : k < es.length) {A : Option Addr} {L : List Dt} {c : Nat} (he : es[k] = ⟨A, L, c⟩) {m : Nat} (hm : m < L.length) (d : Dt) :
    ∃ g a b, A = some ⟨g, 0, none⟩ ∧ W.cell? ⟨g, m * 2, none⟩ = some a ∧ W.cell? ⟨g, m * 2 + 1, none⟩ = some b ∧ (∀ j, W.frozen? ⟨g, j, none⟩ = false) ∧
      FourAt W0 ((W.setCell ⟨g, m * 2, none⟩ (.int .i64 d.site)).setCell ⟨g, m * 2 + 1, none⟩ (.int .i64 d.seq)) Y (es.set k ⟨A, L.set m d, c⟩) := by
  have ho := h.own k hk
  have hne := h.ne k hk
  rw [he] at ho hne
  obtain ⟨g, a, b, hA, hb, ha1, ha2, hf, hr, hK⟩ := dots_turn (n := L.length) (l := L) (c := c) (A := A) ho hm d
  refine ⟨g, a, b, hA, ha1, ha2, hf, h.put hk (hK.more fun j _ e => ?_) ?_ ?_ fun b e => .inl ?_⟩
  · rw [he]; exact .inl (by rw [e]; exact hb)
  · have e : wasV (es.set k ⟨A, L.set m d, c⟩) = wasV es := by
      unfold wasV
      rw [List.map_set]
      congr 1
      have e2 : (⟨A, L.set m d, c⟩ : Wl).v = (es.map Wl.v)[k]'(by simpa using hk) := by
        rw [List.getElem_map, he]
        show Value.slice A (L.set m d).length c = Value.slice A L.length c
        rw [List.length_set]
      rw [e2, List.set_getElem_self]
    rw [e]
    exact h.box.kept hK fun e => hne (by rw [e]; exact hb)
  · show World.ownsRow _ _ _ _ (.slice A (L.set m d).length c) (L.set m d).length _
    rw [List.length_set]
    exact hr
  · rw [he]
    have e : (Value.slice A (L.set m d).length c).ownBlock = some b := e
    rw [List.length_set] at e
    exact e
theorem FourAt.grow (h : FourAt W0 W Y es) {k : Nat} (hk : k < es.length) {A : Option Addr} {L : List Dt} {c : Nat} (he : es[k] = ⟨A, L, c⟩) {d : Dt} {A' : Option Addr} {c' : Nat}
    (ho : W'.ownsRow W0.heap.size 56 2 (.slice A' (L.length + 1) c') (L.length + 1) (dots L ++ [.int .i64 d.site, .int .i64 d.seq])) (hK : Kept (fun j => (Value.slice A L.length c).ownBlock = some j) W W')
    (hg : ∀ b, (Value.slice A' (L.length + 1) c').ownBlock = some b → (Value.slice A L.length c).ownBlock = some b ∨ W.heap.size ≤ b) :
    W'.cell? ⟨Y, k, none⟩ = some (.slice A L.length c) ∧ W'.frozen? ⟨Y, k, none⟩ = false ∧ FourAt W0 (W'.setCell ⟨Y, k, none⟩ (.slice A' (L.length + 1) c')) Y (es.set k ⟨A', L ++ [d], c'⟩) := by
  have hne := h.ne k hk
  rw [he] at hne
  have hb : Box W' Y 31 (wasV es) := h.box.kept hK hne
  have hv : (⟨A', L ++ [d], c'⟩ : Wl).v = .slice A' (L.length + 1) c' := by
    show Value.slice A' (L ++ [d]).length c' = _
    rw [List.length_append]; rfl
  have hk2 : Kept (fun j => j = Y) W' (W'.setCell ⟨Y, k, none⟩ (.slice A' (L.length + 1) c')) := Kept.at (g := Y) (Kept.refl (fun k => k = Y) W') k _ (.inl rfl)
  have hnY : (Value.slice A' (L.length + 1) c').ownBlock ≠ some Y := fun e => (hg Y e).elim hne fun e2 => by have := h.box.lt; omega
  refine ⟨?_, hb.frozen k, h.put hk ((hK.more fun j _ e => ?_).trans hk2 fun j _ e => .inr e) ?_ ?_ fun b e => ?_⟩
  · rw [hb.cell, wasV_get _ _ hk, he]; rfl
  · rw [he]; exact .inl e
  · rw [← wasV_set, hv]
    exact hb.set k _
  · rw [hv, dots_app]
    show World.ownsRow _ _ _ _ _ (L ++ [d]).length _
    rw [List.length_append]
    exact hk2.own ho fun b e e2 => hnY (by rw [e, e2])
  · rw [hv] at e
    rw [he]
    exact hg b e
theorem FourAt.make {W3 W4 W5 : World} {A1 A2 A3 A4 : Option Addr} {l1 l2 l3 l4 : List Dt} {c1 c2 c3 c4 : Nat} (h1 : W3.ownsRow W0.heap.size 56 2 (.slice A1 l1.length c1) l1.length (dots l1)) (h2 : W3.ownsRow W0.heap.size 56 2 (.slice A2 l2.length c2) l2.length (dots l2))
    (h12 : ∀ k, (Value.slice A1 l1.length c1).ownBlock = some k → (Value.slice A2 l2.length c2).ownBlock ≠ some k) (hk : Kept (fun _ => False) W0 W3) (h3 : W4.ownsRow W3.heap.size 56 2 (.slice A3 l3.length c3) l3.length (dots l3)) (hk3 : Kept (fun _ => False) W3 W4)
    (h4 : W5.ownsRow W4.heap.size 56 2 (.slice A4 l4.length c4) l4.length (dots l4)) (hk4 : Kept (fun _ => False) W4 W5) :
    FourAt W0 (W5.alloc (.cells #[.slice A1 l1.length c1, .slice A3 l3.length c3, .slice A4 l4.length c4, .slice A2 l2.length c2] 31)) W5.heap.size [⟨A1, l1, c1⟩, ⟨A3, l3, c3⟩, ⟨A4, l4, c4⟩, ⟨A2, l2, c2⟩] := by
  have hs0 := hk.size
  have hs3 := hk3.size
  have hs4 := hk4.size
  have h35 : Kept (fun _ => False) W3 W5 := hk3.trans hk4 fun _ _ e => e
  have g1 := fun b e => (h1.lt b e).2
  have g2 := fun b e => (h2.lt b e).2
  have g3 := fun b e => h3.lt b e
  have g4 := fun b e => h4.lt b e
  have o1 := (Kept.refl (fun _ => False) W5).alloc (.cells #[.slice A1 l1.length c1, .slice A3 l3.length c3, .slice A4 l4.length c4, .slice A2 l2.length c2] 31)
  refine ⟨Box.new W5 _ _, by omega, fun i hi => ?_, fun i hi j hj hij b e e' => ?_, fun i hi e => ?_, (hk.trans h35 fun _ _ e => e).alloc _⟩
  · have hi' : i < 4 := hi
    rcases (show i = 0 ∨ i = 1 ∨ i = 2 ∨ i = 3 by omega) with rfl | rfl | rfl | rfl
    · exact (h35.trans o1 fun _ _ e => e).own h1 fun _ _ => id
    · exact own_base ((hk4.trans o1 fun _ _ e => e).own h3 fun _ _ => id) (by omega)
    · exact own_base (o1.own h4 fun _ _ => id) (by omega)
    · exact (h35.trans o1 fun _ _ e => e).own h2 fun _ _ => id
  · have hi' : i < 4 := hi
    have hj' : j < 4 := hj
    rcases (show i = 0 ∨ i = 1 ∨ i = 2 ∨ i = 3 by omega) with rfl | rfl | rfl | rfl <;> rcases (show j = 0 ∨ j = 1 ∨ j = 2 ∨ j = 3 by omega) with rfl | rfl | rfl | rfl
    · exact hij rfl
    · have := g1 b e; have := g3 b e'; omega
    · have := g1 b e; have := g4 b e'; omega
    · exact h12 b e e'
    · have := g1 b e'; have := g3 b e; omega
    · exact hij rfl
    · have := g3 b e; have := g4 b e'; omega
    · have := g3 b e; have := g2 b e'; omega
    · have := g1 b e'; have := g4 b e; omega
    · have := g3 b e'; have := g4 b e; omega
    · exact hij rfl
    · have := g4 b e; have := g2 b e'; omega
    · exact h12 b e' e
    · have := g3 b e'; have := g2 b e; omega
    · have := g4 b e'; have := g2 b e; omega
    · exact hij rfl
  · have hi' : i < 4 := hi
    rcases (show i = 0 ∨ i = 1 ∨ i = 2 ∨ i = 3 by omega) with rfl | rfl | rfl | rfl
    · have := g1 _ e; omega
    · have := g3 _ e; omega
    · have := g4 _ e; omega
    · have := g2 _ e; omega
end
/-- What a list bears when it has been written over and gone on from. -/
def marks (k n : Nat) : List Dt := List.replicate n ⟨20 + (k : Int), 9⟩ ++ [⟨50 + (k : Int), 0⟩]
theorem marks_len (k n : Nat) : (marks k n).length = n + 1 := by simp [marks]
theorem marks_low {k n i : Nat} (h : i < n) : (marks k n)[i]? = some ⟨20 + (k : Int), 9⟩ := by
  unfold marks
  rw [List.getElem?_append_left (by simpa using h), List.getElem?_replicate, if_pos h]
theorem marks_last (k n : Nat) : (marks k n)[n]? = some ⟨50 + (k : Int), 0⟩ := by
  unfold marks
  rw [List.getElem?_append_right (by simp)]
  simp
def overD (d : Dt) (m : Nat) (l : List Dt) : List Dt := List.replicate m d ++ l.drop m
theorem overD_zero (d : Dt) (l : List Dt) : overD d 0 l = l := by simp [overD]
theorem overD_all (d : Dt) (l : List Dt) : overD d l.length l = List.replicate l.length d := by simp [overD]
theorem overD_len {d : Dt} {m : Nat} {l : List Dt} (h : m ≤ l.length) : (overD d m l).length = l.length := by simp [overD]; omega
theorem overD_set {d : Dt} {m : Nat} {l : List Dt} (h : m < l.length) : (overD d m l).set m d = overD d (m + 1) l := by
  unfold overD
  rw [List.drop_eq_getElem_cons h, List.replicate_succ', List.append_assoc, List.set_append_right _ _ (by simp), List.length_replicate, Nat.sub_self, List.set_cons_zero]
  rfl
/-- Which lists have been marked. -/
def Mk (n : Nat) (es : List Wl) : Prop := ∀ k (h : k < es.length), k < n → ∃ m, es[k].l = marks k m
theorem Mk.step {k : Nat} {es : List Wl} (h : Mk k es) {x : Wl} {m : Nat} (e : x.l = marks k m) : Mk (k + 1) (es.set k x) := fun j hj hlt => by
  rw [List.length_set] at hj
  by_cases e1 : k = j
  · subst e1
    rw [List.getElem_set_self]
    exact ⟨m, e⟩
  · rw [List.getElem_set_ne e1]
    exact h j hj (by omega)
end Go.Proofs.Ythlejmpeigfdgaa
