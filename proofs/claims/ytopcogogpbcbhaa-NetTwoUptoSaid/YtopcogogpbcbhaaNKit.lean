/- Laws that the networks' walks have in common: stores of a whole struct, bytes in memory, guarded operations. No condition beyond the sizes. -/
import Derived.Test.YtopcogogpbcbhaaSData
import Derived.Test.YtopcogogpbcbhaaKit
import Derived.Test.YtopcogogpbcbhaaLHeld
import Derived.Lib.OwnKind
import Derived.Laws.OwnMore
import Derived.Great.Walk
import Derived.Laws.ResultCell
namespace Go.Proofs.Ytopcogogpbcbhaa
open Go Go.RowKit

section
variable {P : Program} {w : World}
theorem wpList_load_box {ops : Array Oper} {rest : List Oper} {o : Oper} {a : Act} {Q : Exit → Act → World → Prop} (hgd : o.guard = none) (ty : TypeId) (x : Operand) (ho : o.op = .load ty x)
    (g : Nat) (hx : a.eval x = .pointer (some ⟨g, 0, none⟩)) (t : TypeId) (cs : Array Value) (d : TypeDesc) (hg : Box w g t cs)
    (hu : P.underlying ty = some d) (hd : (match d with | .struct _ | .array _ _ => true | _ => false) = true) (hi : (P.info? ty).map (·.size) = some cs.size)
    (h : wpList P ops Q rest (a.put o.dst (.agg cs)) w) : wpList P ops Q (o :: rest) a w :=
  wpList_load_row hgd ty x ho g hx t cs (0, 0) d hg hu hd hi h
theorem setRow_kept (w : World) (g : Nat) (cs : Array Value) : Kept (fun k => k = g) w (w.setRow g cs) :=
  ⟨rfl, rfl, rfl, by simp [World.setRow], fun k _ hk => setRow_other w g k cs hk⟩
theorem wpList_store_box {ops : Array Oper} {rest : List Oper} {o : Oper} {a : Act} {Q : Exit → Act → World → Prop} (hgd : o.guard = none) (ty : TypeId) (x y : Operand) (ho : o.op = .store ty x y)
    (g : Nat) (cells : Array Value) (hx : a.eval x = .pointer (some ⟨g, 0, none⟩)) (hy : a.eval y = .agg cells)
    (t : TypeId) (old : Array Value) (hg : Box w g t old) (hi : (P.info? ty).map (·.size) = some cells.size)
    (hold : old.size = cells.size) (h1 : cells.all (·.oneCell') = true)
    (h : ∀ w', Hid (Box w' g t cells) → Kept (fun k => k = g) w w' → wpList P ops Q rest (a.put o.dst undef) w') : wpList P ops Q (o :: rest) a w :=
  wpList_store_row hgd ty x y ho g cells hx hy t old hg hi hold h1 (h _ (show Box _ _ _ _ from setRow_heap w g old cells t (0, 0) hg) (setRow_kept _ _ _))
end
theorem eltBytes : Elt Try.prog 30 5 1 1 := .of Try.underlying30 info_byte rfl (by decide) (by decide)
theorem Box.at_eq {w : World} {g g' : Nat} {t : TypeId} {cs : Array Value} (h : Box w g t cs) (e : g = g') : Box w g' t cs := e ▸ h
theorem held_takeG {P : Program} {ops : Array Oper} {md : Region.Mode} {Q : Exit → Act → World → Prop} {S : World → Prop} {i : Nat} {oi : Oper} {v : Value} {fuel : Nat} {listed : Array Bool} {a : Act} {w : World} (t : Tmp) (hi : ops[i]? = some oi) (hd : oi.dst = some t)
    (hs : Region.noSelect ops = true) (hf : Region.free md ops listed i = true) (hr : (Region.ready md ops listed).contains i = true)
    (hQ : ∀ c a w, Q (.panic c) (a.put (some t) v) w → Q (.panic c) a w) (hg : Region.wanted oi (yielded ops a.tmps) = true) (hS : S w) (hy : ∀ w, S w → (execOp a.eval oi).run P w = .ok (.value v) w)
    (h : wpAnyH P md ops Q S fuel (listed.setIfInBounds i true) { a with tmps := a.tmps.setIfInBounds t v } w) : wpAnyH P md ops Q S (fuel + 1) listed a w :=
  wpAnyH_take hi hs hf hr (by rw [hd]; exact hQ) (.inl ⟨hg, hy⟩) hS (by rw [hd]; exact h)
theorem wpList_unguard {P : Program} {ops : Array Oper} {Q : Exit → Act → World → Prop} {a : Act} {w : World} {rest : List Oper} {o : Oper} (hw : Region.wanted o (yielded ops a.tmps) = true) (h : wpList P ops Q ({ o with guard := none } :: rest) a w) : wpList P ops Q (o :: rest) a w := by
  unfold wpList at h ⊢
  rw [if_pos hw]
  rw [if_pos (by rfl)] at h
  exact h
theorem own_cells {w : World} {base s n c : Nat} {e : TypeId} {A : Option Addr} {xs : List Value} (h : w.ownsRow base e s (.slice A n c) n xs) (hn : 0 < n) : ∃ g, A = some ⟨g, 0, none⟩ ∧ (Value.slice A n c).ownBlock = some g ∧ (∀ j v, xs[j]? = some v → w.cell? ⟨g, j, none⟩ = some v) ∧ ∀ j, w.frozen? ⟨g, j, none⟩ = false := by
  obtain ⟨g, cap, hv, _, _⟩ := World.ownsRow.form h hn
  injection hv with e1 _ e3
  subst e1 e3
  refine ⟨g, rfl, rfl, fun j v hj => ?_, fun j => World.ownsRow.frozenAt h j⟩
  have := h.cells (g := g) rfl j v hj
  rwa [add_none] at this
theorem own_caps {w : World} {base s n c : Nat} {e : TypeId} {A : Option Addr} {xs : List Value} (h : w.ownsRow base e s (.slice A n c) n xs) : n ≤ c ∧ c ≤ maxLen := by
  rcases h.2 with ⟨h1, h2⟩ | ⟨g, cap, cur, h1, _, _, h3, h4, _⟩
  · injection h1 with _ _ h3
    subst h3 h2
    exact ⟨Nat.le_refl _, by decide⟩
  · injection h1 with _ _ h5
    subst h5
    exact ⟨h3, h4⟩
theorem BytesAt.pre {w : World} {A : Option Addr} {l m : List Int} (h : BytesAt w A (l ++ m)) : BytesAt w A l := fun k hk => by
  have := h k (by rw [List.length_append]; omega)
  rwa [List.getElem_append_left hk] at this
theorem own_emptyB (w : World) : (w.alloc (.cells #[] 5)).ownsRow w.heap.size 5 1 (.slice (some ⟨w.heap.size, 0, none⟩) 0 0) 0 [] := ⟨rfl, .inr ⟨w.heap.size, 0, #[], rfl, Nat.le_refl _, heap_alloc_new w _, Nat.le_refl _, by decide, rfl, rfl⟩⟩
theorem own_oneB (w : World) (v : Int) : (w.alloc (.cells #[.int .u8 v] 5)).ownsRow w.heap.size 5 1 (.slice (some ⟨w.heap.size, 0, none⟩) 1 1) 1 (bys [v]) := ⟨rfl, .inr ⟨w.heap.size, 1, #[.int .u8 v], rfl, Nat.le_refl _, heap_alloc_new w _, Nat.le_refl _, by decide, rfl, rfl⟩⟩
theorem BytesAt.srcs {w : World} {A : Option Addr} {l : List Int} (h : BytesAt w A l) : ∀ j u, (bys l)[j]? = some u → ∃ ad, A = some ad ∧ w.cell? (ad.add j) = some u := fun j u hj => by
  have hl : j < l.length := by
    have := (List.getElem?_eq_some_iff.1 hj).1
    rwa [bys_len] at this
  obtain ⟨ad, rfl, hc⟩ := h j hl
  refine ⟨ad, rfl, ?_⟩
  rw [hc, ← bys_get l j hl, hj]
theorem BytesAt.nilness {w : World} {A : Option Addr} {l : List Int} {c : Nat} (h : BytesAt w A l) (hc : A = none → c = 0) : A = none → l.length = 0 ∧ c = 0 := by
  rintro rfl
  refine ⟨?_, hc rfl⟩
  rcases Nat.eq_zero_or_pos l.length with h0 | h0
  · exact h0
  · obtain ⟨ad, e, _⟩ := h 0 h0
    cases e
theorem bys_join (l m : List Int) : bys l ++ bys m = bys (l ++ m) := by simp [bys]
def NoKind (w : World) (S : Nat → Prop) (e : TypeId) : Prop := ∀ k, S k → ∀ cs c, w.heap[k]? ≠ some (.cells cs e c)
theorem Kept.own_kind {S : Nat → Prop} {w w' : World} {base n size : Nat} {e : TypeId} {v : Value} {xs : List Value} (hk : Kept S w w') (hS : NoKind w S e) (h : w.ownsRow base e size v n xs) : w'.ownsRow base e size v n xs :=
  hk.own h fun k hk hs => by
    rcases h.2 with ⟨rfl, _⟩ | ⟨g, cap, cur, rfl, _, hg, _⟩
    · cases hk
    · have e1 : g = k := by simpa [Value.ownBlock] using hk
      subst e1
      exact hS _ hs _ _ hg
theorem own_other {w : World} {b b' s s' n n' : Nat} {e e' : TypeId} {v v' : Value} {xs xs' : List Value} (h : w.ownsRow b e s v n xs) (h' : w.ownsRow b' e' s' v' n' xs') (hne : e ≠ e') : ∀ k, v.ownBlock = some k → v'.ownBlock ≠ some k := by
  intro k hk hk'
  rcases h.2 with ⟨rfl, _⟩ | ⟨g, cap, cur, rfl, _, hg, _⟩
  · cases hk
  · rcases h'.2 with ⟨rfl, _⟩ | ⟨g', cap', cur', rfl, _, hg', _⟩
    · cases hk'
    · simp only [Value.ownBlock, Option.some.injEq] at hk hk'
      subst hk hk'
      rw [hg] at hg'
      injection hg' with e1
      injection e1 with _ e2
      exact hne e2
theorem own_is {w : World} {b s n : Nat} {e : TypeId} {v : Value} {xs : List Value} (h : w.ownsRow b e s v n xs) {k : Nat} (hk : v.ownBlock = some k) : ∃ cs c, w.heap[k]? = some (.cells cs e c) := by
  rcases h.2 with ⟨rfl, _⟩ | ⟨g, cap, cur, rfl, _, hg, _⟩
  · cases hk
  · simp only [Value.ownBlock, Option.some.injEq] at hk
    subst hk
    exact ⟨_, _, hg⟩
theorem noKind_box {w : World} {g : Nat} {t T : TypeId} {cs : Array Value} (h : Box w g t cs) (hne : T ≠ t) : NoKind w (fun k => k = g) T := fun k hk cs' c hc => by
  subst hk
  rw [show w.heap[k]? = some (.cells cs t (0, 0)) from h] at hc
  injection hc with e1
  injection e1 with _ e2
  exact hne e2.symm
end Go.Proofs.Ytopcogogpbcbhaa
