/- Rows of cells and of ints in memory. No condition. -/
import Derived.Test.YtoeipjhdpeibpaaGreatKit
import Derived.Test.YtoeipjhdpeibpaaGreatObP
import Derived.Test.YtoeipjhdpeibpaaGreatLMem
namespace Go.Proofs.YtoeipjhdpeibpaaGreat
open Go Go.RowKit

def ints (l : List Int) : List Value := l.map (Value.int .i64)
theorem ints_len (l : List Int) : (ints l).length = l.length := by simp [ints]
theorem ints_one (l : List Int) : ∀ u ∈ ints l, u.oneCell' = true := by
  intro u hu
  obtain ⟨x, _, rfl⟩ := List.mem_map.1 hu
  rfl
theorem ints_get (l : List Int) (k : Nat) (h : k < l.length) : (ints l)[k]? = some (.int .i64 l[k]) := by simp [ints, h]
theorem ints_app (l r : List Int) : ints (l ++ r) = ints l ++ ints r := by simp [ints]
/-- These cells lie from an address on. -/
def CellsAt (w : World) (A : Option Addr) (xs : List Value) : Prop := ∀ j u, xs[j]? = some u → ∃ ad, A = some ad ∧ w.cell? (ad.add j) = some u
theorem CellsAt.fresh {w w' : World} {A : Option Addr} {xs : List Value} (h : CellsAt w A xs) (hk : Kept (fun _ => False) w w') : CellsAt w' A xs := fun j u hj => by
  obtain ⟨ad, e, h0⟩ := h j u hj
  refine ⟨ad, e, ?_⟩
  rw [World.cell?_of_block (w := w) (hk.block _ (World.block_lt_of_cell? w _ h0) id)]
  exact h0
theorem CellsAt.nil (w : World) (A : Option Addr) : CellsAt w A [] := fun j u h => by simp at h
theorem CellsAt.of_own {w : World} {b s n c : Nat} {e : TypeId} {A : Option Addr} {xs : List Value} (h : w.ownsRow b e s (.slice A n c) n xs) : CellsAt w A xs := fun j u hj => by
  have hlt : j < xs.length := (List.getElem?_eq_some_iff.1 hj).1
  have hl := h.1
  have hn : 0 < n := by
    rcases Nat.eq_zero_or_pos n with e | e
    · subst e; omega
    · exact e
  obtain ⟨g, rfl, -, hc, -⟩ := own_cells h hn
  refine ⟨_, rfl, ?_⟩
  have e1 : (⟨g, 0, none⟩ : Addr).add j = ⟨g, j, none⟩ := by unfold Addr.add; split <;> simp_all
  rw [e1]
  exact hc j u hj
theorem CellsAt.some_ {w : World} {A : Option Addr} {xs : List Value} (h : CellsAt w A xs) (hn : 0 < xs.length) : ∃ b f, A = some ⟨b, f, none⟩ ∧ ∀ j u, xs[j]? = some u → w.cell? ⟨b, f + j, none⟩ = some u := by
  obtain ⟨ad, rfl, h0⟩ := h 0 _ (List.getElem?_eq_getElem hn)
  obtain ⟨b, f, sp⟩ := ad
  have hs : sp = none := by
    cases sp with
    | none => rfl
    | some x =>
      unfold World.cell? at h0
      have : ((⟨b, f, some x⟩ : Addr).add 0).spot.isSome = true := by unfold Addr.add; rw [if_pos rfl]; rfl
      rw [this] at h0
      simp only [if_true] at h0
      split at h0 <;> cases h0
  subst hs
  refine ⟨b, f, rfl, fun j u hj => ?_⟩
  obtain ⟨ad, e, h1⟩ := h j u hj
  injection e with e
  subst e
  have e1 : (⟨b, f, none⟩ : Addr).add j = ⟨b, f + j, none⟩ := by unfold Addr.add; split <;> simp_all
  rwa [e1] at h1
section
variable {w w' : World} {A : Option Addr} {xs : List Value}
theorem CellsAt.old (h : CellsAt w A xs) (hk : Kept (fun k => w.heap.size ≤ k) w w') : CellsAt w' A xs := fun j u hj => by
  obtain ⟨ad, e, h0⟩ := h j u hj
  refine ⟨ad, e, ?_⟩
  have hlt := World.block_lt_of_cell? w _ h0
  rw [World.cell?_of_block (w := w) (hk.block _ hlt (by omega))]
  exact h0
theorem CellsAt.lt (h : CellsAt w A xs) (hn : 0 < xs.length) : ∀ a, A = some a → a.block < w.heap.size := by
  intro a e
  obtain ⟨ad, e', h0⟩ := h 0 _ (List.getElem?_eq_getElem hn)
  rw [e] at e'
  injection e' with e'
  subst e'
  have := World.block_lt_of_cell? w _ h0
  have hb : (a.add 0).block = a.block := by unfold Addr.add; split <;> rfl
  rwa [hb] at this
end
theorem CellsAt.blocks {w w' : World} {A : Option Addr} {xs : List Value} (h : CellsAt w A xs) (hk : ∀ a, A = some a → w'.heap[a.block]? = w.heap[a.block]?) : CellsAt w' A xs := fun j u hj => by
  obtain ⟨ad, e, h0⟩ := h j u hj
  refine ⟨ad, e, ?_⟩
  have hb : (ad.add j).block = ad.block := by unfold Addr.add; split <;> rfl
  rw [World.cell?_of_block (w := w) (by rw [hb]; exact hk ad e)]
  exact h0
theorem CellsAt.none_nil {w : World} {A : Option Addr} {xs : List Value} (h : CellsAt w A xs) (e : A = none) : xs = [] := by
  subst e
  cases xs with
  | nil => rfl
  | cons x l =>
    obtain ⟨_, e, _⟩ := h 0 x rfl
    cases e
theorem ints_none {w : World} {A : Option Addr} {l : List Int} {c : Nat} (h : CellsAt w A (ints l)) (hn : A = none → c = 0) : A = none → l.length = 0 ∧ c = 0 := fun e => ⟨by
  have := congrArg List.length (h.none_nil e)
  rw [ints_len] at this
  simpa using this, hn e⟩
theorem CellsAt.of_box {w : World} {g : Nat} {t : TypeId} {cs : Array Value} {xs : List Value} (h : Box w g t cs) (e : xs = cs.toList) : CellsAt w (some ⟨g, 0, none⟩) xs := by
  subst e
  intro j u hj
  exact ⟨_, rfl, by rw [add_none, h.cell j]; simpa using hj⟩
theorem ints_cell {w : World} {A : Option Addr} {l : List Int} (h : CellsAt w A (ints l)) (hn : 0 < l.length) : ∃ b f, A = some ⟨b, f, none⟩ ∧ ∀ k (hk : k < l.length), w.cell? ⟨b, f + k, none⟩ = some (.int .i64 l[k]) := by
  obtain ⟨b, f, e, h0⟩ := h.some_ (by rw [ints_len]; exact hn)
  exact ⟨b, f, e, fun k hk => h0 k _ (ints_get l k hk)⟩

theorem Kept.cellF {w w' : World} {p : Addr} {u : Value} (hk : Kept (fun _ => False) w w') (h : w.cell? p = some u) : w'.cell? p = some u := by
  rw [World.cell?_of_block (w := w) (hk.block _ (World.block_lt_of_cell? w _ h) id)]
  exact h
end Go.Proofs.YtoeipjhdpeibpaaGreat
