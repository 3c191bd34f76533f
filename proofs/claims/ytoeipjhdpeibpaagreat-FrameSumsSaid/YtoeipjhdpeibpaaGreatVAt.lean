/- Dots in a slice, rows in a block; whole blocks loaded and stored: laws in the form of Box. No condition beyond the block's own. -/
import Derived.Test.YtoeipjhdpeibpaaGreatRows
import Derived.Test.YtoeipjhdpeibpaaGreatBase
import Derived.Test.YtoeipjhdpeibpaaGreatVPlain
import Derived.Laws.Tables
import Derived.Laws.Rows
import Derived.Deep.RegionLaw
import Derived.Deep.RegionHeld3
import Derived.Deep.CutBlock
import Derived.Deep.AppendLies
import Derived.Maps.AppendAt
import Derived.Lib.SmallJoins
namespace Go.Proofs.YtoeipjhdpeibpaaGreat
open Go.RowKit

def rowV (r : List Int) : Array Value := (r.map (Value.int .i64)).toArray
theorem rowV_size (r : List Int) : (rowV r).size = r.length := by simp [rowV]
theorem rowV_get (r : List Int) (i : Nat) (hi : i < r.length) : (rowV r)[i]? = some (.int .i64 (rg r i)) := by
  unfold rowV rg
  simp [hi]
theorem rowV_set (r : List Int) (i : Nat) (x : Int) : (rowV r).setIfInBounds i (.int .i64 x) = rowV (r.set i x) := by
  unfold rowV
  simp [List.map_set]
theorem rowV_one (r : List Int) : (rowV r).all (·.oneCell') = true := by
  unfold rowV
  simp [Value.oneCell']

/-- the cells of Dots, one behind the other -/
def dots (l : List Dt) : List Value := l.flatMap fun d => [.int .i64 d.site, .int .i64 d.seq]
theorem dots_len (l : List Dt) : (dots l).length = l.length * 2 := by
  induction l with
  | nil => rfl
  | cons d l ih => simp only [dots, List.flatMap_cons, List.length_append, List.length_cons, List.length_nil] at ih ⊢; omega
theorem dots_app (l : List Dt) (d : Dt) : dots (l ++ [d]) = dots l ++ [.int .i64 d.site, .int .i64 d.seq] := by simp [dots]
theorem dots_get (l : List Dt) (k : Nat) (hk : k < l.length) : (dots l)[k * 2]? = some (.int .i64 l[k].site) ∧ (dots l)[k * 2 + 1]? = some (.int .i64 l[k].seq) := by
  induction l generalizing k with
  | nil => simp at hk
  | cons d l ih =>
    cases k with
    | zero => simp [dots]
    | succ k =>
      have := ih k (by simpa using hk)
      have e1 : (k + 1) * 2 = k * 2 + 2 := by omega
      rw [e1]
      simpa [dots] using this
theorem dots_one (l : List Dt) : ∀ u ∈ dots l, u.oneCell' = true := by
  intro u hu
  simp only [dots, List.mem_flatMap] at hu
  obtain ⟨d, _, hd⟩ := hu
  simp at hd
  rcases hd with rfl | rfl <;> rfl

def DotsAt (w : World) (A : Option Addr) (l : List Dt) : Prop := ∀ k (h : k < l.length), ∃ ad, A = some ad ∧
  w.cell? (ad.add (k * 2)) = some (.int .i64 l[k].site) ∧ w.cell? ⟨(ad.add (k * 2)).block, (ad.add (k * 2)).off + 1, none⟩ = some (.int .i64 l[k].seq)

section
variable {w w' : World} {A : Option Addr} {l : List Dt} {S : Nat → Prop}
theorem DotsAt.drewN (h : DotsAt w A l) (n : Nat) : DotsAt (w.drewN n) A l := h
theorem DotsAt.kept (h : DotsAt w A l) (hk : Kept S w w') (hA : ∀ a, A = some a → ¬ S a.block) : DotsAt w' A l := fun k hlt => by
  obtain ⟨ad, he, h0, h1⟩ := h k hlt
  have hb : (ad.add (k * 2)).block = ad.block := by unfold Addr.add; split <;> rfl
  have go : ∀ a v, a.block = ad.block → w.cell? a = some v → w'.cell? a = some v := fun a v ha hv => by
    rw [World.cell?_of_block (w := w) (hk.block _ (World.block_lt_of_cell? w _ hv) (by rw [ha]; exact hA ad he))]
    exact hv
  exact ⟨ad, he, go _ _ hb h0, go _ _ hb h1⟩
theorem DotsAt.fresh (h : DotsAt w A l) (hk : Kept (fun _ => False) w w') : DotsAt w' A l := h.kept hk fun _ _ => id
theorem DotsAt.nil : DotsAt w A [] := fun k h => absurd h (by simp)
theorem DotsAt.of_own {base : Nat} {e : TypeId} {n c : Nat} (h : w.ownsRow base e 2 (.slice A n c) n (dots l)) : DotsAt w A l := fun k hlt => by
  have hz := h.1
  rw [dots_len] at hz
  rcases h.2 with ⟨_, h0⟩ | ⟨g, cap, cur, hv, _⟩
  · omega
  · injection hv with hA
    subst hA
    obtain ⟨g0, g1⟩ := dots_get l k hlt
    refine ⟨_, rfl, h.cells (g := g) rfl _ _ g0, ?_⟩
    have := h.cells (g := g) rfl _ _ g1
    rw [add_none] at this ⊢
    exact this
/-- A new list of Dots. -/
def FreshDots (w : World) (l : List Dt) (e : Ending) (w' : World) : Prop :=
  ∃ A c, e = .returned (.slice A l.length c) ∧ w'.ownsRow w.heap.size 55 2 (.slice A l.length c) l.length (dots l) ∧ Kept (fun _ => False) w w'
theorem FreshDots.at {e : Ending} (h : FreshDots w l e w') : ∃ A c, e = .returned (.slice A l.length c) ∧ DotsAt w' A l ∧ Kept (fun _ => False) w w' := by
  obtain ⟨A, c, he, ho, hk⟩ := h
  exact ⟨A, c, he, DotsAt.of_own ho, hk⟩
theorem FreshDots.mk' {e : Ending} {v : Value} (he : e = .returned v) (ho : w'.ownsRow w.heap.size 55 2 v l.length (dots l)) (hk : Kept (fun _ => False) w w') : FreshDots w l e w' := by
  rcases Go.Joins.ownsRow_forms ho with ⟨rfl, h0⟩ | ⟨g, cap, rfl⟩
  · rw [h0] at ho
    exact ⟨none, 0, by rw [he, h0], by rw [h0]; exact ho, hk⟩
  · exact ⟨_, _, he, ho, hk⟩
end

section
variable {P : Program} {w : World}
theorem wpList_load_box {ops : Array Oper} {rest : List Oper} {o : Oper} {a : Act} {Q : Exit → Act → World → Prop} (hgd : o.guard = none) (ty : TypeId) (x : Operand) (ho : o.op = .load ty x)
    (g : Nat) (hx : a.eval x = .pointer (some ⟨g, 0, none⟩)) (t : TypeId) (cs : Array Value) (d : TypeDesc) (hg : Box w g t cs)
    (hu : P.underlying ty = some d) (hd : (match d with | .struct _ | .array _ _ => true | _ => false) = true) (hi : (P.info? ty).map (·.size) = some cs.size)
    (h : wpList P ops Q rest (a.put o.dst (.agg cs)) w) : wpList P ops Q (o :: rest) a w :=
  wpList_load_row hgd ty x ho g hx t cs (0, 0) d hg hu hd hi h
theorem setRow_kept (w : World) (g : Nat) (cs : Array Value) : Kept (fun k => k = g) w (w.setRow g cs) :=
  ⟨rfl, rfl, rfl, by simp [World.setRow], fun k _ hk => setRow_other w g k cs hk⟩
theorem wpList_store_box {ops : Array Oper} {rest : List Oper} {o : Oper} {a : Act} {Q : Exit → Act → World → Prop} (hgd : o.guard = none) (ty : TypeId) (x y : Operand) (ho : o.op = .store ty x y)
    (g : Nat) (cells : Array Value) (hx : a.eval x = .pointer (some ⟨g, 0, none⟩)) (hy : a.eval y = .agg cells)
    (t : TypeId) (old : Array Value) (hg : Box w g t old) (hi : (P.info? ty).map (·.size) = some cells.size)
    (hold : old.size = cells.size) (h1 : cells.all (·.oneCell') = true)
    (h : ∀ w', Hid (Box w' g t cells) → Kept (fun k => k = g) w w' → wpList P ops Q rest (a.put o.dst undef) w') : wpList P ops Q (o :: rest) a w :=
  wpList_store_row hgd ty x y ho g cells hx hy t old hg hi hold h1 (h _ (show Box _ _ _ _ from setRow_heap w g old cells t (0, 0) hg) (setRow_kept _ _ _))
end

theorem size_row : (Tryz.prog.info? 85).map (·.size) = some 17 := by kernel_rfl
theorem info_dot : (Tryz.prog.info? 55).map (fun i => (i.zero, i.size, i.bytes)) = some (some (.agg #[.int .i64 0, .int .i64 0]), 2, 16) := by kernel_rfl
theorem size_of_row {r : List Int} (h : Row r) : some 17 = some (rowV r).size := by rw [rowV_size, h.len]

set_option maxRecDepth 100000 in
theorem isSite_is (n : Int) (b : Bool) (w : World) (hb : siteB n = b) : Calls Tryz.prog 58 #[.int .i64 n] w fun e w' => e = .returned (.bool b) ∧ w = w' := by
  cases b with
  | true =>
    have h : 1 ≤ n ∧ n ≤ 16 := by simpa [siteB] using hb
    obtain ⟨h1, h2⟩ := h
    clear hb
    go_enter Tryz.func58, Tryz.ntmps58
    go_wp2
    go_ret
    exact ⟨rfl, rfl⟩
  | false =>
    have h : n < 1 ∨ (1 ≤ n ∧ 16 < n) := by simp [siteB] at hb; omega
    clear hb
    rcases h with h | ⟨h, h2⟩
    all_goals
      go_enter Tryz.func58, Tryz.ntmps58
      go_wp2
      go_ret
      exact ⟨by first | rfl | exact ret_bool (decide_eq_false (by omega)), rfl⟩
end Go.Proofs.YtoeipjhdpeibpaaGreat
