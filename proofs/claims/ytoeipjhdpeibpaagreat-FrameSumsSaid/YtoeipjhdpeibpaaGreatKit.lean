/- Laws of append in the words of Kept: one for any source (nil let in), one for a source just built. No condition beyond the sizes. -/
import Derived.Test.YtoeipjhdpeibpaaGreatBase
import Derived.Laws.AppendOwnNone
import Derived.Laws.Tables
import Derived.Laws.Rows
import Derived.Deep.RegionLaw
import Derived.Deep.RegionHeld3
import Derived.Deep.CutBlock
import Derived.Deep.AppendLies
import Derived.Maps.AppendAt
import Derived.Lib.SmallJoins
namespace Go.Proofs.YtoeipjhdpeibpaaGreat
open Go Go.RowKit

/-- A slice type and its element type, as the program has them. -/
structure Elt (P : Program) (t e : TypeId) (size bytes : Nat) : Prop where
  und : P.underlying t = some (.slice e)
  info : ∃ i z, P.info? e = some i ∧ i.zero = some z ∧ i.size = size ∧ i.bytes = bytes ∧ z.cells.size = size
  pos : 0 < size
  posb : 0 < bytes
theorem Elt.of {P : Program} {t e : TypeId} {size bytes : Nat} {z : Value} (hu : P.underlying t = some (.slice e)) (h : (P.info? e).map (fun i => (i.zero, i.size, i.bytes)) = some (some z, size, bytes)) (hz : z.cells.size = size) (h0 : 0 < size) (h1 : 0 < bytes) : Elt P t e size bytes := by
  obtain ⟨i, hi, a, b, c⟩ := info_parts h
  exact ⟨hu, ⟨i, z, hi, a, b, c, hz⟩, h0, h1⟩
/-- Where a slice may lie behind a step from w: where v lay, or in a new block. -/
def Goes (w : World) (v v' : Value) : Prop := ∀ k, v'.ownBlock = some k → v.ownBlock = some k ∨ w.heap.size ≤ k
theorem Goes.refl (w : World) (v : Value) : Goes w v v := fun _ h => .inl h
theorem Goes.trans {w w1 : World} {a b c : Value} (h : Goes w a b) (h' : Goes w1 b c) (hs : w.heap.size ≤ w1.heap.size) : Goes w a c := fun k hk => (h' k hk).elim (h k) fun e => .inr (Nat.le_trans hs e)
theorem Goes.owns {w : World} {a b : Value} (h : Goes w a b) : ∀ k, k < w.heap.size → b.ownBlock = some k → a.ownBlock = some k := fun k hk e => (h k e).elim id fun e' => absurd hk (by omega)
theorem own_shape {w : World} {base : Nat} {e : TypeId} {size n : Nat} {v : Value} {xs : List Value} (h : w.ownsRow base e size v n xs) : ∃ A c, v = .slice A n c := by
  rcases Go.Joins.ownsRow_forms h with ⟨rfl, h0⟩ | ⟨g, cap, rfl⟩
  · exact ⟨none, 0, by rw [h0]⟩
  · exact ⟨_, _, rfl⟩
theorem Kept.of_grown {w w' : World} {row : Option Nat} (h : w.grownBy w' row) : Kept (fun k => row = some k) w w' := ⟨h.os, h.tape, h.output, h.size, fun k hk hne => h.block k hk (fun e => hne e.symm)⟩

section
variable {P : Program} {w : World} {t e : TypeId} {size bytes : Nat} {ops : Array Oper} {rest : List Oper} {o : Oper} {a : Act} {Q : Exit → Act → World → Prop}
theorem wpList_append_kit (E : Elt P t e size bytes) (hgd : o.guard = none) (s x : Operand) (ho : o.op = .call { callee := .builtin .append, args := #[s, x], argTypes := #[t, t] })
    (base : Nat) (v : Value) (n : Nat) (xs : List Value) (hs : a.eval s = v) (hown : w.ownsRow base e size v n xs)
    (A : Option Addr) (m c : Nat) (news : List Value) (hx : a.eval x = .slice A m c) (hA : A = none → m = 0 ∧ c = 0) (hl : news.length = m * size)
    (hnews : ∀ j u, news[j]? = some u → ∃ ad, A = some ad ∧ w.cell? (ad.add j) = some u) (h1 : ∀ u ∈ news, u.oneCell' = true)
    (hbytes : (n + m) * bytes ≤ 140737488355328) (hbase : base ≤ w.heap.size)
    (h : ∀ A' c' w', Hid (w'.ownsRow base e size (.slice A' (n + m) c') (n + m) (xs ++ news)) → Hid (Kept (fun k => v.ownBlock = some k) w w') → Hid (Goes w v (.slice A' (n + m) c')) → wpList P ops Q rest (a.put o.dst (.slice A' (n + m) c')) w') :
    wpList P ops Q (o :: rest) a w := by
  obtain ⟨i, z, hi, hz, hsz, hby, hzs⟩ := E.info
  cases A with
  | none =>
    obtain ⟨rfl, rfl⟩ := hA rfl
    obtain rfl : news = [] := List.eq_nil_of_length_eq_zero (by omega)
    obtain ⟨A', c', rfl⟩ := own_shape hown
    refine wpList_append_own_none hgd s x t ho base e i size E.und hi _ n xs hs hown hx ?_
    exact h A' c' w (by rw [List.append_nil]; exact hown) (Kept.refl _ _) (Goes.refl _ _)
  | some ad =>
    have hmax : n + m ≤ maxLen := by
      have := Nat.le_trans (Nat.le_mul_of_pos_right (n + m) E.posb) hbytes
      unfold maxLen
      omega
    refine wpList_append_own_at w hgd s x t ho base e i z size bytes E.und hi hz hsz hby hzs E.pos v n xs hs hown ad m c news hx hl (fun j u hj => ?_) h1 hmax hbytes hbase fun v' w' h2 h3 _ h5 => ?_
    · obtain ⟨ad', he, hc⟩ := hnews j u hj
      injection he with he
      subst he
      exact hc
    · obtain ⟨A', c', rfl⟩ := own_shape h2
      refine h A' c' w' h2 (Kept.of_grown h3 |>.more fun k _ e => e) fun k hk => ?_
      rcases h5 with h5 | h5
      · exact .inl (h5 ▸ hk)
      · right
        rw [h5] at hk
        injection hk with hk
        omega
/-- The same where the source was built just before. -/
theorem wpList_append_new {T : TypeId} {cs : Array Value} (E : Elt P t e size bytes) (hgd : o.guard = none) (s x : Operand) (ho : o.op = .call { callee := .builtin .append, args := #[s, x], argTypes := #[t, t] })
    (base : Nat) (v : Value) (n : Nat) (xs : List Value) (hs : a.eval s = v) (hown : w.ownsRow base e size v n xs)
    (m c : Nat) (hx : a.eval x = .slice (some ⟨w.heap.size, 0, none⟩) m c) (hl : cs.size = m * size) (h1 : cs.toList.all (·.oneCell') = true)
    (hbytes : (n + m) * bytes ≤ 140737488355328) (hbase : base ≤ w.heap.size)
    (h : ∀ A' c' w', Hid (w'.ownsRow base e size (.slice A' (n + m) c') (n + m) (xs ++ cs.toList)) → Hid (Kept (fun k => v.ownBlock = some k) w w') → Hid (Goes w v (.slice A' (n + m) c')) → wpList P ops Q rest (a.put o.dst (.slice A' (n + m) c')) w') :
    wpList P ops Q (o :: rest) a (w.alloc (.cells cs T)) := by
  refine wpList_append_kit E hgd s x ho base v n xs hs (hown.alloc _) (some ⟨w.heap.size, 0, none⟩) m c cs.toList hx (fun h => by cases h) (by simpa using hl) (fun j u hj => ⟨_, rfl, ?_⟩) (fun u hu => ?_) hbytes (by simp; omega) fun A' c' w' h2 h3 h4 => ?_
  · rw [add_none, (Box.new w T cs).cell j]
    simpa using hj
  · exact List.all_eq_true.1 h1 u hu
  · refine h A' c' w' h2 (((Kept.refl _ _).alloc _).trans h3 fun k _ e => e) fun k hk => (h4 k hk).imp_right fun h => ?_
    simp at h
    omega
/-- The first append to nil: a copy of the source. -/
theorem wpList_append_copy (E : Elt P t e size bytes) (hgd : o.guard = none) (s x : Operand) (ho : o.op = .call { callee := .builtin .append, args := #[s, x], argTypes := #[t, t] })
    (hs : a.eval s = .slice none 0 0)
    (A : Option Addr) (m c : Nat) (news : List Value) (hx : a.eval x = .slice A m c) (hA : A = none → m = 0 ∧ c = 0) (hl : news.length = m * size)
    (hnews : ∀ j u, news[j]? = some u → ∃ ad, A = some ad ∧ w.cell? (ad.add j) = some u) (h1 : ∀ u ∈ news, u.oneCell' = true)
    (hbytes : m * bytes ≤ 140737488355328)
    (h : ∀ A' c' w', Hid (w'.ownsRow w.heap.size e size (.slice A' m c') m news) → Hid (Kept (fun _ => False) w w') → wpList P ops Q rest (a.put o.dst (.slice A' m c')) w') :
    wpList P ops Q (o :: rest) a w := by
  refine wpList_append_kit E hgd s x ho w.heap.size _ 0 [] hs (World.ownsRow_nil _ _ _ _) A m c news hx hA hl hnews h1 (by rwa [Nat.zero_add]) (Nat.le_refl _) fun A' c' w' h2 h3 _ => ?_
  rw [Nat.zero_add] at h2 ⊢
  exact h A' c' w' h2 (h3.more fun k _ e => by cases e)
end
end Go.Proofs.YtoeipjhdpeibpaaGreat
