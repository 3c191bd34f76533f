/- Objects that each have memory of their own, side by side. No condition. · Rows of cells and of ints in memory. No condition. · Regions that draw their order, by hand: an operation that reads is taken first, one that may come up next is walked as a list of one. No condition. -/
import Derived.Test.YtnajbkccaclkcaaGreatIM3
import Derived.Test.YtnajbkccaclkcaaGreatIM6
import Derived.Test.YtnajbkccaclkcaaGreatIM0
import Derived.Deep.RegionHeld3
import Derived.Deep.MidRow
namespace Go.Proofs.YtnajbkccaclkcaaGreat
open Go Go.RowKit

/-- What stays while only other memory turns. -/
structure Ob (A : (Nat → Prop) → World → Prop) : Prop where
  kept : ∀ {G S : Nat → Prop} {W W' : World}, A G W → Kept S W W' → (∀ k, G k → ¬ S k) → A G W'
  more : ∀ {G S : Nat → Prop} {W : World}, A G W → (∀ k, G k → S k) → A S W
  cut : ∀ {G : Nat → Prop} {W : World}, A G W → A (fun k => G k ∧ k < W.heap.size) W
theorem Ob.fresh {A : (Nat → Prop) → World → Prop} (h : Ob A) {G : Nat → Prop} {W W' : World} (ha : A G W) (hk : Kept (fun _ => False) W W') : A G W' := h.kept ha hk fun _ _ => id
def Pair (A B : (Nat → Prop) → World → Prop) (G : Nat → Prop) (W : World) : Prop :=
  ∃ Fa Fb : Nat → Prop, A Fa W ∧ B Fb W ∧ (∀ k, Fa k → G k ∧ ¬ Fb k ∧ k < W.heap.size) ∧ ∀ k, Fb k → G k ∧ k < W.heap.size
section
variable {A B A' B' : (Nat → Prop) → World → Prop} {G : Nat → Prop} {W W' : World}
theorem Pair.ob (ha : Ob A) (hb : Ob B) : Ob (Pair A B) where
  kept := by
    rintro G S W W' ⟨Fa, Fb, h1, h2, h3, h4⟩ hk hS
    exact ⟨Fa, Fb, ha.kept h1 hk fun k e => hS k (h3 k e).1, hb.kept h2 hk fun k e => hS k (h4 k e).1, fun k e => ⟨(h3 k e).1, (h3 k e).2.1, Nat.lt_of_lt_of_le (h3 k e).2.2 hk.size⟩, fun k e => ⟨(h4 k e).1, Nat.lt_of_lt_of_le (h4 k e).2 hk.size⟩⟩
  more := by
    rintro G S W ⟨Fa, Fb, h1, h2, h3, h4⟩ hS
    exact ⟨Fa, Fb, h1, h2, fun k e => ⟨hS k (h3 k e).1, (h3 k e).2⟩, fun k e => ⟨hS k (h4 k e).1, (h4 k e).2⟩⟩
  cut := by
    rintro G W ⟨Fa, Fb, h1, h2, h3, h4⟩
    exact ⟨Fa, Fb, h1, h2, fun k e => ⟨⟨(h3 k e).1, (h3 k e).2.2⟩, (h3 k e).2⟩, fun k e => ⟨h4 k e, (h4 k e).2⟩⟩
theorem Pair.swap (h : Pair A B G W) : Pair B A G W := by
  obtain ⟨Fa, Fb, h1, h2, h3, h4⟩ := h
  exact ⟨Fb, Fa, h2, h1, fun k e => ⟨(h4 k e).1, fun e' => (h3 k e').2.1 e, (h4 k e).2⟩, fun k e => ⟨(h3 k e).1, (h3 k e).2.2⟩⟩
/-- The first of the two goes on: with what memory it may, and what stands then. -/
theorem Pair.left (hb : Ob B) (h : Pair A B G W) (ha : Ob A) (hG : ∀ k, W.heap.size ≤ k → G k) :
    ∃ H : Nat → Prop, A H W ∧ (∀ k, W.heap.size ≤ k → H k) ∧ (∀ k, H k → G k) ∧ ∀ (A' : (Nat → Prop) → World → Prop) (W' : World), Ob A' → A' H W' → Kept H W W' → Pair A' B G W' ∧ Kept G W W' := by
  obtain ⟨Fa, Fb, h1, h2, h3, h4⟩ := h
  refine ⟨fun k => Fa k ∨ W.heap.size ≤ k, ha.more h1 fun k e => .inl e, fun k e => .inr e, fun k e => e.elim (fun e => (h3 k e).1) (hG k), fun A' W' ha' h5 hk => ⟨?_, hk.more fun k _ e => e.elim (fun e => (h3 k e).1) (hG k)⟩⟩
  refine ⟨_, Fb, ha'.cut h5, hb.kept h2 hk fun k e e' => ?_, fun k e => ⟨e.1.elim (fun e => (h3 k e).1) (hG k), fun e' => ?_, e.2⟩, fun k e => ⟨(h4 k e).1, Nat.lt_of_lt_of_le (h4 k e).2 hk.size⟩⟩
  · rcases e' with e' | e'
    · exact (h3 k e').2.1 e
    · have := (h4 k e).2; omega
  · rcases e.1 with e1 | e1
    · exact (h3 k e1).2.1 e'
    · have := (h4 k e').2; omega
theorem Pair.right (ha : Ob A) (h : Pair A B G W) (hb : Ob B) (hG : ∀ k, W.heap.size ≤ k → G k) :
    ∃ H : Nat → Prop, B H W ∧ (∀ k, W.heap.size ≤ k → H k) ∧ (∀ k, H k → G k) ∧ ∀ (B' : (Nat → Prop) → World → Prop) (W' : World), Ob B' → B' H W' → Kept H W W' → Pair A B' G W' ∧ Kept G W W' := by
  obtain ⟨H, h1, h2, h3, h4⟩ := Pair.left ha h.swap hb hG
  exact ⟨H, h1, h2, h3, fun B' W' o hb' hk => ⟨(h4 B' W' o hb' hk).1.swap, (h4 B' W' o hb' hk).2⟩⟩
/-- Two made one behind the other. -/
theorem Pair.make {Fa Fb : Nat → Prop} (ha : Ob A) (hb : Ob B) (h1 : A Fa W) (h2 : B Fb W) (h3 : ∀ k, Fa k → k < W.heap.size → ¬ Fb k) (h4 : ∀ k, Fa k → G k) (h5 : ∀ k, Fb k → G k) : Pair A B G W :=
  ⟨_, _, ha.cut h1, hb.cut h2, fun k e => ⟨h4 k e.1, fun e' => h3 k e.1 e.2 e'.1, e.2⟩, fun k e => ⟨h5 k e.1, e.2⟩⟩
end
/-- The first of two goes on in its own memory alone. -/
theorem Pair.left_in {A B : (Nat → Prop) → World → Prop} {G : Nat → Prop} {W : World} (hb : Ob B) (h : Pair A B G W) :
    ∃ H : Nat → Prop, A H W ∧ (∀ k, H k → G k ∧ k < W.heap.size) ∧ ∀ (A' : (Nat → Prop) → World → Prop) (W' : World), A' H W' → Kept H W W' → Pair A' B G W' ∧ Kept G W W' := by
  obtain ⟨Fa, Fb, h1, h2, h3, h4⟩ := h
  refine ⟨Fa, h1, fun k e => ⟨(h3 k e).1, (h3 k e).2.2⟩, fun A' W' h5 hk => ⟨⟨Fa, Fb, h5, hb.kept h2 hk fun k e e2 => (h3 k e2).2.1 e, fun k e => ⟨(h3 k e).1, (h3 k e).2.1, Nat.lt_of_lt_of_le (h3 k e).2.2 hk.size⟩, fun k e => ⟨(h4 k e).1, Nat.lt_of_lt_of_le (h4 k e).2 hk.size⟩⟩, hk.more fun k _ e => (h3 k e).1⟩⟩
theorem own_kinds {w : World} {b b' s s' n n' : Nat} {e e' : TypeId} {v v' : Value} {xs xs' : List Value} (h : w.ownsRow b e s v n xs) (h' : w.ownsRow b' e' s' v' n' xs') (hne : e ≠ e') : ∀ k, v.ownBlock = some k → v'.ownBlock ≠ some k := by
  intro k hk hk'
  rcases h.2 with ⟨rfl, _⟩ | ⟨g, cap, cur, rfl, _, hg, _⟩
  · cases hk
  · rcases h'.2 with ⟨rfl, _⟩ | ⟨g', cap', cur', rfl, _, hg', _⟩
    · cases hk'
    · simp only [Value.ownBlock, Option.some.injEq] at hk hk'
      subst hk hk'
      rw [hg] at hg'
      injection hg' with e1
      injection e1 with _ e2
      exact hne e2
theorem own_cells {w : World} {base s n c : Nat} {e : TypeId} {A : Option Addr} {xs : List Value} (h : w.ownsRow base e s (.slice A n c) n xs) (hn : 0 < n) : ∃ g, A = some ⟨g, 0, none⟩ ∧ (Value.slice A n c).ownBlock = some g ∧ (∀ j v, xs[j]? = some v → w.cell? ⟨g, j, none⟩ = some v) ∧ ∀ j, w.frozen? ⟨g, j, none⟩ = false := by
  obtain ⟨g, cap, hv, _, _⟩ := World.ownsRow.form h hn
  injection hv with e1 _ e3
  subst e1 e3
  refine ⟨g, rfl, rfl, fun j v hj => ?_, fun j => World.ownsRow.frozenAt h j⟩
  have := h.cells (g := g) rfl j v hj
  rwa [add_none] at this
theorem own_caps {w : World} {base s n c : Nat} {e : TypeId} {A : Option Addr} {xs : List Value} (h : w.ownsRow base e s (.slice A n c) n xs) : n ≤ c ∧ c ≤ maxLen := by
  rcases h.2 with ⟨h1, h2⟩ | ⟨g, cap, cur, h1, _, _, h3, h4, _⟩
  · injection h1 with _ _ h3
    subst h3 h2
    exact ⟨Nat.le_refl _, by decide⟩
  · injection h1 with _ _ h5
    subst h5
    exact ⟨h3, h4⟩

end Go.Proofs.YtnajbkccaclkcaaGreat

namespace Go.Proofs.YtnajbkccaclkcaaGreat
open Go Go.RowKit

def ints (l : List Int) : List Value := l.map (Value.int .i64)
theorem ints_len (l : List Int) : (ints l).length = l.length := by simp [ints]
theorem ints_one (l : List Int) : ∀ u ∈ ints l, u.oneCell' = true := by
  intro u hu
  obtain ⟨x, _, rfl⟩ := List.mem_map.1 hu
  rfl
theorem ints_get (l : List Int) (k : Nat) (h : k < l.length) : (ints l)[k]? = some (.int .i64 l[k]) := by simp [ints, h]
theorem ints_app (l r : List Int) : ints (l ++ r) = ints l ++ ints r := by simp [ints]
/-- These cells lie from an address on. -/
def CellsAt (w : World) (A : Option Addr) (xs : List Value) : Prop := ∀ j u, xs[j]? = some u → ∃ ad, A = some ad ∧ w.cell? (ad.add j) = some u
theorem CellsAt.fresh {w w' : World} {A : Option Addr} {xs : List Value} (h : CellsAt w A xs) (hk : Kept (fun _ => False) w w') : CellsAt w' A xs := fun j u hj => by
  obtain ⟨ad, e, h0⟩ := h j u hj
  refine ⟨ad, e, ?_⟩
  rw [World.cell?_of_block (w := w) (hk.block _ (World.block_lt_of_cell? w _ h0) id)]
  exact h0
theorem CellsAt.nil (w : World) (A : Option Addr) : CellsAt w A [] := fun j u h => by simp at h
theorem CellsAt.of_own {w : World} {b s n c : Nat} {e : TypeId} {A : Option Addr} {xs : List Value} (h : w.ownsRow b e s (.slice A n c) n xs) : CellsAt w A xs := fun j u hj => by
  have hlt : j < xs.length := (List.getElem?_eq_some_iff.1 hj).1
  have hl := h.1
  have hn : 0 < n := by
    rcases Nat.eq_zero_or_pos n with e | e
    · subst e; omega
    · exact e
  obtain ⟨g, rfl, -, hc, -⟩ := own_cells h hn
  refine ⟨_, rfl, ?_⟩
  have e1 : (⟨g, 0, none⟩ : Addr).add j = ⟨g, j, none⟩ := by unfold Addr.add; split <;> simp_all
  rw [e1]
  exact hc j u hj
theorem CellsAt.some_ {w : World} {A : Option Addr} {xs : List Value} (h : CellsAt w A xs) (hn : 0 < xs.length) : ∃ b f, A = some ⟨b, f, none⟩ ∧ ∀ j u, xs[j]? = some u → w.cell? ⟨b, f + j, none⟩ = some u := by
  obtain ⟨ad, rfl, h0⟩ := h 0 _ (List.getElem?_eq_getElem hn)
  obtain ⟨b, f, sp⟩ := ad
  have hs : sp = none := by
    cases sp with
    | none => rfl
    | some x =>
      unfold World.cell? at h0
      have : ((⟨b, f, some x⟩ : Addr).add 0).spot.isSome = true := by unfold Addr.add; rw [if_pos rfl]; rfl
      rw [this] at h0
      simp only [if_true] at h0
      split at h0 <;> cases h0
  subst hs
  refine ⟨b, f, rfl, fun j u hj => ?_⟩
  obtain ⟨ad, e, h1⟩ := h j u hj
  injection e with e
  subst e
  have e1 : (⟨b, f, none⟩ : Addr).add j = ⟨b, f + j, none⟩ := by unfold Addr.add; split <;> simp_all
  rwa [e1] at h1
section
variable {w w' : World} {A : Option Addr} {xs : List Value}
theorem CellsAt.old (h : CellsAt w A xs) (hk : Kept (fun k => w.heap.size ≤ k) w w') : CellsAt w' A xs := fun j u hj => by
  obtain ⟨ad, e, h0⟩ := h j u hj
  refine ⟨ad, e, ?_⟩
  have hlt := World.block_lt_of_cell? w _ h0
  rw [World.cell?_of_block (w := w) (hk.block _ hlt (by omega))]
  exact h0
theorem CellsAt.lt (h : CellsAt w A xs) (hn : 0 < xs.length) : ∀ a, A = some a → a.block < w.heap.size := by
  intro a e
  obtain ⟨ad, e', h0⟩ := h 0 _ (List.getElem?_eq_getElem hn)
  rw [e] at e'
  injection e' with e'
  subst e'
  have := World.block_lt_of_cell? w _ h0
  have hb : (a.add 0).block = a.block := by unfold Addr.add; split <;> rfl
  rwa [hb] at this
end
theorem CellsAt.blocks {w w' : World} {A : Option Addr} {xs : List Value} (h : CellsAt w A xs) (hk : ∀ a, A = some a → w'.heap[a.block]? = w.heap[a.block]?) : CellsAt w' A xs := fun j u hj => by
  obtain ⟨ad, e, h0⟩ := h j u hj
  refine ⟨ad, e, ?_⟩
  have hb : (ad.add j).block = ad.block := by unfold Addr.add; split <;> rfl
  rw [World.cell?_of_block (w := w) (by rw [hb]; exact hk ad e)]
  exact h0
theorem CellsAt.none_nil {w : World} {A : Option Addr} {xs : List Value} (h : CellsAt w A xs) (e : A = none) : xs = [] := by
  subst e
  cases xs with
  | nil => rfl
  | cons x l =>
    obtain ⟨_, e, _⟩ := h 0 x rfl
    cases e
theorem ints_none {w : World} {A : Option Addr} {l : List Int} {c : Nat} (h : CellsAt w A (ints l)) (hn : A = none → c = 0) : A = none → l.length = 0 ∧ c = 0 := fun e => ⟨by
  have := congrArg List.length (h.none_nil e)
  rw [ints_len] at this
  simpa using this, hn e⟩
theorem CellsAt.of_box {w : World} {g : Nat} {t : TypeId} {cs : Array Value} {xs : List Value} (h : Box w g t cs) (e : xs = cs.toList) : CellsAt w (some ⟨g, 0, none⟩) xs := by
  subst e
  intro j u hj
  exact ⟨_, rfl, by rw [add_none, h.cell j]; simpa using hj⟩
theorem ints_cell {w : World} {A : Option Addr} {l : List Int} (h : CellsAt w A (ints l)) (hn : 0 < l.length) : ∃ b f, A = some ⟨b, f, none⟩ ∧ ∀ k (hk : k < l.length), w.cell? ⟨b, f + k, none⟩ = some (.int .i64 l[k]) := by
  obtain ⟨b, f, e, h0⟩ := h.some_ (by rw [ints_len]; exact hn)
  exact ⟨b, f, e, fun k hk => h0 k _ (ints_get l k hk)⟩

theorem Kept.cellF {w w' : World} {p : Addr} {u : Value} (hk : Kept (fun _ => False) w w') (h : w.cell? p = some u) : w'.cell? p = some u := by
  rw [World.cell?_of_block (w := w) (hk.block _ (World.block_lt_of_cell? w _ h) id)]
  exact h
end Go.Proofs.YtnajbkccaclkcaaGreat

namespace Go.Proofs.YtnajbkccaclkcaaGreat
open Go Go.RowKit

def Post1 (Q : Exit → Act → World → Prop) (K : Act → World → Prop) : Exit → Act → World → Prop
  | .normal, a, w => K a w
  | e, a, w => Q e a w
section
variable {P : Program} {ops : Array Oper} {md : Region.Mode} {Q : Exit → Act → World → Prop} {S : World → Prop} {K : Act → World → Prop}
theorem upon_post1 {o : Oper} {a : Act} {r : Result Next} (h : o.upon P a K (Post1 Q K) r) : o.upon P a K Q r := by
  cases r with
  | ok n w' =>
    cases n with
    | enter f args =>
      refine Calls.mono (show Calls _ _ _ _ _ from h) fun e w'' he => ?_
      cases e with
      | returned v => exact he
      | panicked c => exact he
      | outgrown => exact he
    | _ => exact h
  | halt x w' => cases x <;> exact h
theorem wpOp_list {i : Nat} {o : Oper} {a : Act} {w : World} (ho : ops[i]? = some o) (h : wpList P ops (Post1 Q K) [o] a w) : wpOp P ops Q i K a w := by
  unfold wpOp
  rw [ho]
  unfold wpList at h
  show if Region.wanted o (yielded ops a.tmps) = true then _ else _
  split
  · rename_i hw
    rw [if_pos hw] at h
    rcases h with h | ⟨h1, h2⟩
    · exact .inl (upon_post1 h)
    · exact .inr ⟨h1, h2⟩
  · rename_i hw
    rw [if_neg hw] at h
    exact h
theorem AllReadyH.law {fuel : Nat} {listed : Array Bool} {a : Act} {w : World} {i : Nat} {o : Oper} {rs : List Nat} (ho : ops[i]? = some o)
    (h : ∀ K : Act → World → Prop, Shut (∀ a w, S w → (S w → wpAnyH P md ops Q S fuel (listed.setIfInBounds i true) a w) → K a w) → wpList P ops (Post1 Q K) [o] a w)
    (hs : AllReadyH P md ops Q S fuel listed a w rs) : AllReadyH P md ops Q S fuel listed a w (i :: rs) := fun j hj => by
  rcases List.mem_cons.1 hj with rfl | hj
  · exact wpOp_list ho (h _ (fun a w hS hW => ⟨hS, hW hS⟩))
  · exact hs j hj
/-- One alone may come up next. -/
theorem held_one {fuel : Nat} {listed : Array Bool} {a : Act} {w : World} {i : Nat} {o : Oper} (hr : Region.ready md ops listed = [i]) (ho : ops[i]? = some o)
    (h : ∀ K : Act → World → Prop, Shut (∀ a w, S w → (S w → wpAnyH P md ops Q S fuel (listed.setIfInBounds i true) a w) → K a w) → wpList P ops (Post1 Q K) [o] a w) : wpAnyH P md ops Q S (fuel + 1) listed a w :=
  wpAnyH_ready hr (by simp) (AllReadyH.law ho h AllReadyH.nil)
/-- Two may. -/
theorem held_two {fuel : Nat} {listed : Array Bool} {a : Act} {w : World} {i j : Nat} {o o' : Oper} (hr : Region.ready md ops listed = [i, j]) (ho : ops[i]? = some o) (ho' : ops[j]? = some o')
    (h : ∀ K : Act → World → Prop, Shut (∀ a w, S w → (S w → wpAnyH P md ops Q S fuel (listed.setIfInBounds i true) a w) → K a w) → wpList P ops (Post1 Q K) [o] a w)
    (h' : ∀ K : Act → World → Prop, Shut (∀ a w, S w → (S w → wpAnyH P md ops Q S fuel (listed.setIfInBounds j true) a w) → K a w) → wpList P ops (Post1 Q K) [o'] a w) : wpAnyH P md ops Q S (fuel + 1) listed a w :=
  wpAnyH_ready hr (by simp) (AllReadyH.law ho h (AllReadyH.law ho' h' AllReadyH.nil))
theorem held_take {i : Nat} {oi : Oper} {v : Value} {fuel : Nat} {listed : Array Bool} {a : Act} {w : World} (hi : ops[i]? = some oi)
    (hs : Region.noSelect ops = true) (hf : Region.free md ops listed i = true) (hr : (Region.ready md ops listed).contains i = true)
    (hQ : ∀ c a w, Q (.panic c) (a.put oi.dst v) w → Q (.panic c) a w) (hg : oi.guard = none) (hS : S w) (hy : ∀ w, S w → (execOp a.eval oi).run P w = .ok (.value v) w)
    (h : wpAnyH P md ops Q S fuel (listed.setIfInBounds i true) (a.put oi.dst v) w) : wpAnyH P md ops Q S (fuel + 1) listed a w :=
  wpAnyH_take hi hs hf hr hQ (.inl ⟨by simp [Region.wanted, hg], hy⟩) hS h
theorem held_takeTo {i : Nat} {oi : Oper} {v : Value} {fuel : Nat} {listed : Array Bool} {a : Act} {w : World} (t : Tmp) (hi : ops[i]? = some oi) (hd : oi.dst = some t)
    (hs : Region.noSelect ops = true) (hf : Region.free md ops listed i = true) (hr : (Region.ready md ops listed).contains i = true)
    (hQ : ∀ c a w, Q (.panic c) (a.put (some t) v) w → Q (.panic c) a w) (hg : oi.guard = none) (hS : S w) (hy : ∀ w, S w → (execOp a.eval oi).run P w = .ok (.value v) w)
    (h : wpAnyH P md ops Q S fuel (listed.setIfInBounds i true) { a with tmps := a.tmps.setIfInBounds t v } w) : wpAnyH P md ops Q S (fuel + 1) listed a w :=
  held_take hi hs hf hr (by rw [hd]; exact hQ) hg hS hy (by rw [hd]; exact h)
end
end Go.Proofs.YtnajbkccaclkcaaGreat
