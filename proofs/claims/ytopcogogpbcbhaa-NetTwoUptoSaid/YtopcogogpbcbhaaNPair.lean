/- Objects that each have memory of their own, side by side. No condition beyond the contracts' own. -/
import Derived.Test.YtopcogogpbcbhaaNTol
namespace Go.Proofs.Ytopcogogpbcbhaa
open Go Go.RowKit

/-- What stays while only other memory turns. -/
structure Ob (A : (Nat → Prop) → World → Prop) : Prop where
  kept : ∀ {G S : Nat → Prop} {W W' : World}, A G W → Kept S W W' → (∀ k, G k → ¬ S k) → A G W'
  more : ∀ {G S : Nat → Prop} {W : World}, A G W → (∀ k, G k → S k) → A S W
  cut : ∀ {G : Nat → Prop} {W : World}, A G W → A (fun k => G k ∧ k < W.heap.size) W
theorem Ob.fresh {A : (Nat → Prop) → World → Prop} (h : Ob A) {G : Nat → Prop} {W W' : World} (ha : A G W) (hk : Kept (fun _ => False) W W') : A G W' := h.kept ha hk fun _ _ => id
def Pair (A B : (Nat → Prop) → World → Prop) (G : Nat → Prop) (W : World) : Prop :=
  ∃ Fa Fb : Nat → Prop, A Fa W ∧ B Fb W ∧ (∀ k, Fa k → G k ∧ ¬ Fb k ∧ k < W.heap.size) ∧ ∀ k, Fb k → G k ∧ k < W.heap.size
section
variable {A B A' B' : (Nat → Prop) → World → Prop} {G : Nat → Prop} {W W' : World}
theorem Pair.ob (ha : Ob A) (hb : Ob B) : Ob (Pair A B) where
  kept := by
    rintro G S W W' ⟨Fa, Fb, h1, h2, h3, h4⟩ hk hS
    exact ⟨Fa, Fb, ha.kept h1 hk fun k e => hS k (h3 k e).1, hb.kept h2 hk fun k e => hS k (h4 k e).1, fun k e => ⟨(h3 k e).1, (h3 k e).2.1, Nat.lt_of_lt_of_le (h3 k e).2.2 hk.size⟩, fun k e => ⟨(h4 k e).1, Nat.lt_of_lt_of_le (h4 k e).2 hk.size⟩⟩
  more := by
    rintro G S W ⟨Fa, Fb, h1, h2, h3, h4⟩ hS
    exact ⟨Fa, Fb, h1, h2, fun k e => ⟨hS k (h3 k e).1, (h3 k e).2⟩, fun k e => ⟨hS k (h4 k e).1, (h4 k e).2⟩⟩
  cut := by
    rintro G W ⟨Fa, Fb, h1, h2, h3, h4⟩
    exact ⟨Fa, Fb, h1, h2, fun k e => ⟨⟨(h3 k e).1, (h3 k e).2.2⟩, (h3 k e).2⟩, fun k e => ⟨h4 k e, (h4 k e).2⟩⟩
theorem Pair.swap (h : Pair A B G W) : Pair B A G W := by
  obtain ⟨Fa, Fb, h1, h2, h3, h4⟩ := h
  exact ⟨Fb, Fa, h2, h1, fun k e => ⟨(h4 k e).1, fun e' => (h3 k e').2.1 e, (h4 k e).2⟩, fun k e => ⟨(h3 k e).1, (h3 k e).2.2⟩⟩
/-- The first of the two goes on: with what memory it may, and what stands then. -/
theorem Pair.left (hb : Ob B) (h : Pair A B G W) (ha : Ob A) (hG : ∀ k, W.heap.size ≤ k → G k) :
    ∃ H : Nat → Prop, A H W ∧ (∀ k, W.heap.size ≤ k → H k) ∧ (∀ k, H k → G k) ∧ ∀ (A' : (Nat → Prop) → World → Prop) (W' : World), Ob A' → A' H W' → Kept H W W' → Pair A' B G W' ∧ Kept G W W' := by
  obtain ⟨Fa, Fb, h1, h2, h3, h4⟩ := h
  refine ⟨fun k => Fa k ∨ W.heap.size ≤ k, ha.more h1 fun k e => .inl e, fun k e => .inr e, fun k e => e.elim (fun e => (h3 k e).1) (hG k), fun A' W' ha' h5 hk => ⟨?_, hk.more fun k _ e => e.elim (fun e => (h3 k e).1) (hG k)⟩⟩
  refine ⟨_, Fb, ha'.cut h5, hb.kept h2 hk fun k e e' => ?_, fun k e => ⟨e.1.elim (fun e => (h3 k e).1) (hG k), fun e' => ?_, e.2⟩, fun k e => ⟨(h4 k e).1, Nat.lt_of_lt_of_le (h4 k e).2 hk.size⟩⟩
  · rcases e' with e' | e'
    · exact (h3 k e').2.1 e
    · have := (h4 k e).2; omega
  · rcases e.1 with e1 | e1
    · exact (h3 k e1).2.1 e'
    · have := (h4 k e').2; omega
theorem Pair.right (ha : Ob A) (h : Pair A B G W) (hb : Ob B) (hG : ∀ k, W.heap.size ≤ k → G k) :
    ∃ H : Nat → Prop, B H W ∧ (∀ k, W.heap.size ≤ k → H k) ∧ (∀ k, H k → G k) ∧ ∀ (B' : (Nat → Prop) → World → Prop) (W' : World), Ob B' → B' H W' → Kept H W W' → Pair A B' G W' ∧ Kept G W W' := by
  obtain ⟨H, h1, h2, h3, h4⟩ := Pair.left ha h.swap hb hG
  exact ⟨H, h1, h2, h3, fun B' W' o hb' hk => ⟨(h4 B' W' o hb' hk).1.swap, (h4 B' W' o hb' hk).2⟩⟩
/-- Two made one behind the other. -/
theorem Pair.make {Fa Fb : Nat → Prop} (ha : Ob A) (hb : Ob B) (h1 : A Fa W) (h2 : B Fb W) (h3 : ∀ k, Fa k → k < W.heap.size → ¬ Fb k) (h4 : ∀ k, Fa k → G k) (h5 : ∀ k, Fb k → G k) : Pair A B G W :=
  ⟨_, _, ha.cut h1, hb.cut h2, fun k e => ⟨h4 k e.1, fun e' => h3 k e.1 e.2 e'.1, e.2⟩, fun k e => ⟨h5 k e.1, e.2⟩⟩
end
/-- A network as such an object. -/
def Nob (p : Nat) (s : Nt) (G : Nat → Prop) (W : World) : Prop := Nw G p s W
theorem Nob.ob (p : Nat) (s : Nt) : Ob (Nob p s) where
  kept := fun h hk hS => Nw.kept h hk hS
  more := fun h hS => Nw.more h hS
  cut := by
    rintro G W ⟨F, es, h1, h2⟩
    exact ⟨F, es, h1, fun k e => ⟨h2 k e, h1.lt k e⟩⟩
/-- Told copies and what is known of them, in memory from b on. -/
theorem CopAt.kept_ {S : Nat → Prop} {w w' : World} {b : Nat} {L : Option Addr} {lc : Nat} {l : List Cc} (h : CopAt w b L lc l) (hk : Kept S w w') (hS : ∀ k, b ≤ k → ¬ S k) : CopAt w' b L lc l :=
  ⟨hk.own h.row fun k e => hS k (h.row.lt k e).1, fun x hx => hk.own (h.d x hx) fun k e => hS k ((h.d x hx).lt k e).1, h.ap⟩
end Go.Proofs.Ytopcogogpbcbhaa
