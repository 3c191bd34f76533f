/- Loads and stores of whole events; worlds that have only grown. No condition. -/
import Derived.Test.YtkekhnohehhljaaEInt
import Derived.Shelf.SlSortCmp.QuietGrown
namespace Go.Proofs.Ytkekhnohehhljaa
open Go Go.Shelf Go.RowKit Go.Lib Go.Sort

def evZ : Array Value := #[.int .i64 0, .int .i64 0, .int .i64 0, .int .i64 0, .int .i64 0, .int .i64 0, .bool false]
section
variable {ops : Array Oper} {rest : List Oper} {o : Oper} {a : Act} {w : World} {Q : Exit → Act → World → Prop}
theorem load_ev (hgd : o.guard = none) (x : Operand) (ho : o.op = .load 35 x) (b f : Nat) (hx : a.eval x = .pointer (some ⟨b, f, none⟩)) (e : Ev) (hc : w.rangeAt b f e.cs)
    (h : wpList Try.prog ops Q rest (a.put o.dst (.agg #[.int .i64 e.step, .int .i64 e.kind, .int .i64 e.copy, .int .i64 e.src, .int .i64 e.dst, .int .i64 e.sent, .bool e.bad])) w) : wpList Try.prog ops Q (o :: rest) a w :=
  wpList_load_mid hgd _ x ho b f hx e.cs _ hc ev_und rfl ev_size h
theorem store_ev (hgd : o.guard = none) (x y : Operand) (ho : o.op = .store 35 x y) (g : Nat) (cs : Array Value) (hx : a.eval x = .pointer (some ⟨g, 0, none⟩)) (hy : a.eval y = .agg cs) (old : Array Value) (hg : Box w g 35 old)
    (hs : cs.size = 7) (hold : old.size = 7) (h1 : cs.all (·.oneCell') = true) (h : ∀ w', Hid (Box w' g 35 cs) → Kept (fun k => k = g) w w' → wpList Try.prog ops Q rest (a.put o.dst undef) w') : wpList Try.prog ops Q (o :: rest) a w :=
  wpList_store_row hgd _ x y ho g cs hx hy 35 old hg (by rw [hs]; exact ev_size) (by rw [hs, hold]) h1
    (h _ (show Box _ _ _ _ from setRow_heap w g old cs _ (0, 0) hg) ⟨rfl, rfl, rfl, by simp [World.setRow], fun k _ hk => setRow_other w g k cs hk⟩)
end
theorem kept_grown {S : Nat → Prop} (w : World) (n : Nat) (os : Array Obj) : Kept S w (grow (w.drewN n) os) := ⟨rfl, rfl, rfl, by simp [grow], fun k hk _ => by simp only [grow]; exact Array.getElem?_append_left hk⟩
theorem pick4 {A B C D : Type} {P : Nat → Array Obj → A → B → C → D → Prop} (h : ∀ q os, ∃ a b c d, P q os a b c d) : ∃ (a : Nat → Array Obj → A) (b : Nat → Array Obj → B) (c : Nat → Array Obj → C) (d : Nat → Array Obj → D), ∀ q os, P q os (a q os) (b q os) (c q os) (d q os) :=
  ⟨fun q os => (h q os).choose, fun q os => (h q os).choose_spec.choose, fun q os => (h q os).choose_spec.choose_spec.choose, fun q os => (h q os).choose_spec.choose_spec.choose_spec.choose, fun q os => (h q os).choose_spec.choose_spec.choose_spec.choose_spec⟩
theorem ev_range {w : World} {b f : Nat} {es : List Ev} (h : ∀ j u, (evs es)[j]? = some u → w.cell? ⟨b, f + j, none⟩ = some u) (q : Nat) (hq : q < es.length) : w.rangeAt b (f + q * 7) es[q].cs := fun j v hj => by
  have h7 : j < 7 := (List.getElem?_eq_some_iff.1 hj).1
  have := h (q * 7 + j) v (by rw [evs_get es q hq j h7]; exact hj)
  rw [Nat.add_assoc]
  exact this
end Go.Proofs.Ytkekhnohehhljaa
