/- Objects that each have memory of their own, side by side. No condition. -/
import Derived.Test.YtoeipjhdpeibpaaGreatKit
namespace Go.Proofs.YtoeipjhdpeibpaaGreat
open Go Go.RowKit

/-- What stays while only other memory turns. -/
structure Ob (A : (Nat → Prop) → World → Prop) : Prop where
  kept : ∀ {G S : Nat → Prop} {W W' : World}, A G W → Kept S W W' → (∀ k, G k → ¬ S k) → A G W'
  more : ∀ {G S : Nat → Prop} {W : World}, A G W → (∀ k, G k → S k) → A S W
  cut : ∀ {G : Nat → Prop} {W : World}, A G W → A (fun k => G k ∧ k < W.heap.size) W
theorem Ob.fresh {A : (Nat → Prop) → World → Prop} (h : Ob A) {G : Nat → Prop} {W W' : World} (ha : A G W) (hk : Kept (fun _ => False) W W') : A G W' := h.kept ha hk fun _ _ => id
def Pair (A B : (Nat → Prop) → World → Prop) (G : Nat → Prop) (W : World) : Prop :=
  ∃ Fa Fb : Nat → Prop, A Fa W ∧ B Fb W ∧ (∀ k, Fa k → G k ∧ ¬ Fb k ∧ k < W.heap.size) ∧ ∀ k, Fb k → G k ∧ k < W.heap.size
section
variable {A B A' B' : (Nat → Prop) → World → Prop} {G : Nat → Prop} {W W' : World}
theorem Pair.ob (ha : Ob A) (hb : Ob B) : Ob (Pair A B) where
  kept := by
    rintro G S W W' ⟨Fa, Fb, h1, h2, h3, h4⟩ hk hS
    exact ⟨Fa, Fb, ha.kept h1 hk fun k e => hS k (h3 k e).1, hb.kept h2 hk fun k e => hS k (h4 k e).1, fun k e => ⟨(h3 k e).1, (h3 k e).2.1, Nat.lt_of_lt_of_le (h3 k e).2.2 hk.size⟩, fun k e => ⟨(h4 k e).1, Nat.lt_of_lt_of_le (h4 k e).2 hk.size⟩⟩
  more := by
    rintro G S W ⟨Fa, Fb, h1, h2, h3, h4⟩ hS
    exact ⟨Fa, Fb, h1, h2, fun k e => ⟨hS k (h3 k e).1, (h3 k e).2⟩, fun k e => ⟨hS k (h4 k e).1, (h4 k e).2⟩⟩
  cut := by
    rintro G W ⟨Fa, Fb, h1, h2, h3, h4⟩
    exact ⟨Fa, Fb, h1, h2, fun k e => ⟨⟨(h3 k e).1, (h3 k e).2.2⟩, (h3 k e).2⟩, fun k e => ⟨h4 k e, (h4 k e).2⟩⟩
theorem Pair.swap (h : Pair A B G W) : Pair B A G W := by
  obtain ⟨Fa, Fb, h1, h2, h3, h4⟩ := h
  exact ⟨Fb, Fa, h2, h1, fun k e => ⟨(h4 k e).1, fun e' => (h3 k e').2.1 e, (h4 k e).2⟩, fun k e => ⟨(h3 k e).1, (h3 k e).2.2⟩⟩
/-- The first of the two goes on: with what memory it may, and what stands then. -/
theorem Pair.left (hb : Ob B) (h : Pair A B G W) (ha : Ob A) (hG : ∀ k, W.heap.size ≤ k → G k) :
    ∃ H : Nat → Prop, A H W ∧ (∀ k, W.heap.size ≤ k → H k) ∧ (∀ k, H k → G k) ∧ ∀ (A' : (Nat → Prop) → World → Prop) (W' : World), Ob A' → A' H W' → Kept H W W' → Pair A' B G W' ∧ Kept G W W' := by
  obtain ⟨Fa, Fb, h1, h2, h3, h4⟩ := h
  refine ⟨fun k => Fa k ∨ W.heap.size ≤ k, ha.more h1 fun k e => .inl e, fun k e => .inr e, fun k e => e.elim (fun e => (h3 k e).1) (hG k), fun A' W' ha' h5 hk => ⟨?_, hk.more fun k _ e => e.elim (fun e => (h3 k e).1) (hG k)⟩⟩
  refine ⟨_, Fb, ha'.cut h5, hb.kept h2 hk fun k e e' => ?_, fun k e => ⟨e.1.elim (fun e => (h3 k e).1) (hG k), fun e' => ?_, e.2⟩, fun k e => ⟨(h4 k e).1, Nat.lt_of_lt_of_le (h4 k e).2 hk.size⟩⟩
  · rcases e' with e' | e'
    · exact (h3 k e').2.1 e
    · have := (h4 k e).2; omega
  · rcases e.1 with e1 | e1
    · exact (h3 k e1).2.1 e'
    · have := (h4 k e').2; omega
theorem Pair.right (ha : Ob A) (h : Pair A B G W) (hb : Ob B) (hG : ∀ k, W.heap.size ≤ k → G k) :
    ∃ H : Nat → Prop, B H W ∧ (∀ k, W.heap.size ≤ k → H k) ∧ (∀ k, H k → G k) ∧ ∀ (B' : (Nat → Prop) → World → Prop) (W' : World), Ob B' → B' H W' → Kept H W W' → Pair A B' G W' ∧ Kept G W W' := by
  obtain ⟨H, h1, h2, h3, h4⟩ := Pair.left ha h.swap hb hG
  exact ⟨H, h1, h2, h3, fun B' W' o hb' hk => ⟨(h4 B' W' o hb' hk).1.swap, (h4 B' W' o hb' hk).2⟩⟩
/-- Two made one behind the other. -/
theorem Pair.make {Fa Fb : Nat → Prop} (ha : Ob A) (hb : Ob B) (h1 : A Fa W) (h2 : B Fb W) (h3 : ∀ k, Fa k → k < W.heap.size → ¬ Fb k) (h4 : ∀ k, Fa k → G k) (h5 : ∀ k, Fb k → G k) : Pair A B G W :=
  ⟨_, _, ha.cut h1, hb.cut h2, fun k e => ⟨h4 k e.1, fun e' => h3 k e.1 e.2 e'.1, e.2⟩, fun k e => ⟨h5 k e.1, e.2⟩⟩
end
/-- The first of two goes on in its own memory alone. -/
theorem Pair.left_in {A B : (Nat → Prop) → World → Prop} {G : Nat → Prop} {W : World} (hb : Ob B) (h : Pair A B G W) :
    ∃ H : Nat → Prop, A H W ∧ (∀ k, H k → G k ∧ k < W.heap.size) ∧ ∀ (A' : (Nat → Prop) → World → Prop) (W' : World), A' H W' → Kept H W W' → Pair A' B G W' ∧ Kept G W W' := by
  obtain ⟨Fa, Fb, h1, h2, h3, h4⟩ := h
  refine ⟨Fa, h1, fun k e => ⟨(h3 k e).1, (h3 k e).2.2⟩, fun A' W' h5 hk => ⟨⟨Fa, Fb, h5, hb.kept h2 hk fun k e e2 => (h3 k e2).2.1 e, fun k e => ⟨(h3 k e).1, (h3 k e).2.1, Nat.lt_of_lt_of_le (h3 k e).2.2 hk.size⟩, fun k e => ⟨(h4 k e).1, Nat.lt_of_lt_of_le (h4 k e).2 hk.size⟩⟩, hk.more fun k _ e => (h3 k e).1⟩⟩
theorem own_kinds {w : World} {b b' s s' n n' : Nat} {e e' : TypeId} {v v' : Value} {xs xs' : List Value} (h : w.ownsRow b e s v n xs) (h' : w.ownsRow b' e' s' v' n' xs') (hne : e ≠ e') : ∀ k, v.ownBlock = some k → v'.ownBlock ≠ some k := by
  intro k hk hk'
  rcases h.2 with ⟨rfl, _⟩ | ⟨g, cap, cur, rfl, _, hg, _⟩
  · cases hk
  · rcases h'.2 with ⟨rfl, _⟩ | ⟨g', cap', cur', rfl, _, hg', _⟩
    · cases hk'
    · simp only [Value.ownBlock, Option.some.injEq] at hk hk'
      subst hk hk'
      rw [hg] at hg'
      injection hg' with e1
      injection e1 with _ e2
      exact hne e2
theorem own_cells {w : World} {base s n c : Nat} {e : TypeId} {A : Option Addr} {xs : List Value} (h : w.ownsRow base e s (.slice A n c) n xs) (hn : 0 < n) : ∃ g, A = some ⟨g, 0, none⟩ ∧ (Value.slice A n c).ownBlock = some g ∧ (∀ j v, xs[j]? = some v → w.cell? ⟨g, j, none⟩ = some v) ∧ ∀ j, w.frozen? ⟨g, j, none⟩ = false := by
  obtain ⟨g, cap, hv, _, _⟩ := World.ownsRow.form h hn
  injection hv with e1 _ e3
  subst e1 e3
  refine ⟨g, rfl, rfl, fun j v hj => ?_, fun j => World.ownsRow.frozenAt h j⟩
  have := h.cells (g := g) rfl j v hj
  rwa [add_none] at this
theorem own_caps {w : World} {base s n c : Nat} {e : TypeId} {A : Option Addr} {xs : List Value} (h : w.ownsRow base e s (.slice A n c) n xs) : n ≤ c ∧ c ≤ maxLen := by
  rcases h.2 with ⟨h1, h2⟩ | ⟨g, cap, cur, h1, _, _, h3, h4, _⟩
  · injection h1 with _ _ h3
    subst h3 h2
    exact ⟨Nat.le_refl _, by decide⟩
  · injection h1 with _ _ h5
    subst h5
    exact ⟨h3, h4⟩

end Go.Proofs.YtoeipjhdpeibpaaGreat
