/- An array of vectors, by sites, that each own their memory. No condition. -/
import Derived.Test.YthlejmpeigfdgaaFMeP
namespace Go.Proofs.Ythlejmpeigfdgaa
open Go Go.RowKit

/-- A list of Dots and where it lies. -/
structure Wl where
  A : Option Addr
  l : List Dt
  c : Nat
def Wl.v (x : Wl) : Value := .slice x.A x.l.length x.c
def wasV (es : List Wl) : Array Value := (es.map Wl.v).toArray
theorem wasV_get (es : List Wl) (i : Nat) (h : i < es.length) : (wasV es)[i]? = some es[i].v := by simp [wasV, h]
theorem wasV_set (es : List Wl) (i : Nat) (x : Wl) : (wasV es).setIfInBounds i x.v = wasV (es.set i x) := by simp [wasV, List.map_set]
def Was (X : Nat) (us : Nat → List Dt) (G : Nat → Prop) (W : World) : Prop :=
  ∃ es : List Wl, es.length = 17 ∧ Box W X 47 (wasV es) ∧ G X ∧ ∀ i (h : i < es.length), (1 ≤ i → es[i].l = us i) ∧ W.ownsRow 0 56 2 es[i].v es[i].l.length (dots es[i].l) ∧ ∀ k, es[i].v.ownBlock = some k → G k ∧ k ≠ X
theorem Was.ob (X : Nat) (us : Nat → List Dt) : Ob (Was X us) where
  kept := by
    rintro G S W W' ⟨es, h0, h1, h2, h3⟩ hk hS
    exact ⟨es, h0, h1.kept hk (hS X h2), h2, fun i h => ⟨(h3 i h).1, hk.own (h3 i h).2.1 fun k e => hS k ((h3 i h).2.2 k e).1, (h3 i h).2.2⟩⟩
  more := by
    rintro G S W ⟨es, h0, h1, h2, h3⟩ hS
    exact ⟨es, h0, h1, hS X h2, fun i h => ⟨(h3 i h).1, (h3 i h).2.1, fun k e => ⟨hS k ((h3 i h).2.2 k e).1, ((h3 i h).2.2 k e).2⟩⟩⟩
  cut := by
    rintro G W ⟨es, h0, h1, h2, h3⟩
    exact ⟨es, h0, h1, ⟨h2, h1.lt⟩, fun i h => ⟨(h3 i h).1, (h3 i h).2.1, fun k e => ⟨⟨((h3 i h).2.2 k e).1, ((h3 i h).2.1.lt k e).2⟩, ((h3 i h).2.2 k e).2⟩⟩⟩
section
variable {X : Nat} {us : Nat → List Dt} {G : Nat → Prop} {W : World}
theorem Was.congr {us' : Nat → List Dt} (h : Was X us G W) (e : ∀ i, 1 ≤ i → i < 17 → us i = us' i) : Was X us' G W := by
  obtain ⟨es, h0, h1, h2, h3⟩ := h
  exact ⟨es, h0, h1, h2, fun i h => ⟨fun h4 => ((h3 i h).1 h4).trans (e i h4 (by omega)), (h3 i h).2⟩⟩
theorem Was.lt (h : Was X us G W) : X < W.heap.size := by obtain ⟨es, h0, h1, h2, h3⟩ := h; exact h1.lt
theorem Was.at (h : Was X us G W) {n : Nat} (h1 : 1 ≤ n) (hn : n < 17) : ∃ A c, W.cell? ⟨X, n, none⟩ = some (.slice A (us n).length c) ∧ W.frozen? ⟨X, n, none⟩ = false ∧ DotsAt W A (us n) := by
  obtain ⟨es, g0, g1, g2, g3⟩ := h
  obtain ⟨e1, e2, e3⟩ := g3 n (by omega)
  refine ⟨es[n].A, es[n].c, ?_, g1.frozen n, ?_⟩
  · rw [g1.cell, wasV_get _ _ (by omega)]
    show some (Value.slice _ es[n].l.length _) = _
    rw [e1 h1]
  · rw [← e1 h1]
    exact DotsAt.of_own (c := es[n].c) e2
theorem Was.set (h : Was X us G W) {n : Nat} {A : Option Addr} {l : List Dt} {c b : Nat} (ho : W.ownsRow b 56 2 (.slice A l.length c) l.length (dots l)) (hX : ∀ k, (Value.slice A l.length c).ownBlock = some k → G k ∧ k ≠ X) :
    Was X (fun i => if i = n then l else us i) G (W.setCell ⟨X, n, none⟩ (.slice A l.length c)) ∧ Kept (fun k => k = X) W (W.setCell ⟨X, n, none⟩ (.slice A l.length c)) := by
  obtain ⟨es, g0, g1, g2, g3⟩ := h
  have hk : Kept (fun k => k = X) W (W.setCell ⟨X, n, none⟩ (.slice A l.length c)) := Kept.at (g := X) (Kept.refl (fun k => k = X) W) n _ (.inl rfl)
  refine ⟨⟨es.set n ⟨A, l, c⟩, by simpa using g0, ?_, g2, fun i hi => ?_⟩, hk⟩
  · rw [← wasV_set]
    exact g1.set n _
  · rw [List.length_set] at hi
    rw [List.getElem_set]
    by_cases e : n = i
    · simp only [if_pos e, if_pos e.symm]
      exact ⟨fun _ => trivial, own_base (hk.own ho fun k e1 e2 => (hX k e1).2 e2) (Nat.zero_le _), hX⟩
    · simp only [if_neg e, if_neg (fun h => e (Eq.symm h))]
      obtain ⟨e1, e2, e3⟩ := g3 i hi
      exact ⟨e1, hk.own e2 fun k e4 e5 => (e3 k e4).2 e5, e3⟩
end
theorem was_zero (w : World) : Was w.heap.size (fun _ => []) (fun k => k = w.heap.size) (w.alloc (.cells #[.slice none 0 0, .slice none 0 0, .slice none 0 0, .slice none 0 0, .slice none 0 0, .slice none 0 0, .slice none 0 0, .slice none 0 0, .slice none 0 0, .slice none 0 0, .slice none 0 0, .slice none 0 0, .slice none 0 0, .slice none 0 0, .slice none 0 0, .slice none 0 0, .slice none 0 0] 47)) ∧ Kept (fun _ => False) w (w.alloc (.cells #[.slice none 0 0, .slice none 0 0, .slice none 0 0, .slice none 0 0, .slice none 0 0, .slice none 0 0, .slice none 0 0, .slice none 0 0, .slice none 0 0, .slice none 0 0, .slice none 0 0, .slice none 0 0, .slice none 0 0, .slice none 0 0, .slice none 0 0, .slice none 0 0, .slice none 0 0] 47)) := by
  refine ⟨⟨List.replicate 17 ⟨none, [], 0⟩, by simp, Box.new w _ _, rfl, fun i hi => ?_⟩, (Kept.refl _ _).alloc _⟩
  rw [List.getElem_replicate]
  exact ⟨fun _ => rfl, World.ownsRow_nil _ _ _ _, fun k e => by cases e⟩
/-- A block of known cells, as an object. -/
def Bob (Z : Nat) (T : TypeId) (cs : Array Value) (G : Nat → Prop) (W : World) : Prop := Box W Z T cs ∧ G Z
theorem Bob.ob (Z : Nat) (T : TypeId) (cs : Array Value) : Ob (Bob Z T cs) where
  kept := fun h hk hS => ⟨h.1.kept hk (hS Z h.2), h.2⟩
  more := fun h hS => ⟨h.1, hS Z h.2⟩
  cut := fun h => ⟨h.1, h.2, h.1.lt⟩
theorem playF_C (l : List Stf) : ∀ s, FsC s → FsV s → FsOk s → FsC (playF s l) ∧ FsV (playF s l) ∧ FsOk (playF s l) := by
  induction l with
  | nil => exact fun s h h1 h2 => ⟨h, h1, h2⟩
  | cons y l ih => exact fun s h h1 h2 => ih _ (h.step y) (h1.step y) (h2.step y)
theorem playF_ok (l : List Stf) : FsC (playF [] l) ∧ FsV (playF [] l) ∧ FsOk (playF [] l) := playF_C l [] FsC.nil FsV.nil FsOk.nil
end Go.Proofs.Ythlejmpeigfdgaa
