/- The walk of Writer.Number. Conditions: the Writer lies in memory as WriterAt says. -/
import Derived.Test.YtopcogogpbcbhaaSAt
namespace Go.Proofs.Ytopcogogpbcbhaa
open Go.RowKit

theorem bits_more (m : Nat) : bits .or .u8 ((m : Int) % 256) 128 = (m : Int) % 128 + 128 := by
  have : ∀ x : Fin 256, bits .or .u8 ((x.val : Nat) : Int) 128 = ((x.val % 128 + 128 : Nat) : Int) := by decide +kernel
  have h := this ⟨m % 256, by omega⟩
  have e1 : ((m : Int) % 256) = ((m % 256 : Nat) : Int) := by omega
  rw [e1, h]
  show ((m % 256 % 128 + 128 : Nat) : Int) = _
  omega
theorem num_len {l l' : List Int} {m n : Nat} (h : l' ++ enc m = l ++ enc n) (hn : (n : Int) ≤ 9223372036854775807) : l'.length ≤ l.length + 9 := by
  have h1 := enc_len 8 n (Nat.lt_of_le_of_lt (show n ≤ 9223372036854775807 by omega) (by decide))
  have h2 := congrArg List.length h
  simp only [List.length_append] at h2
  omega
theorem news_byte (W : World) (b : Int) (T : TypeId) (g : Nat) (hg : g = W.heap.size) : ∀ (j : Nat) (v : Value), [Value.int .u8 b][j]? = some v → (W.alloc (.cells #[.int .u8 b] T)).cell? ((⟨g, 0, none⟩ : Addr).add j) = some v := by
  subst hg
  intro j v hv
  rw [add_none, (Box.new W T #[.int .u8 b]).cell j]
  simpa using hv
theorem one_byte (b : Int) : ∀ u ∈ [Value.int .u8 b], u.oneCell' = true := by
  intro u hu; simp at hu; rcases hu with rfl; rfl
theorem own_form {w : World} {base : Nat} {e : TypeId} {size n : Nat} {v : Value} {xs : List Value} (h : w.ownsRow base e size v n xs) : ∃ A c, v = .slice A n c := by
  rcases Go.Joins.ownsRow_forms h with ⟨rfl, h0⟩ | ⟨g, cap, rfl⟩
  · exact ⟨none, 0, by rw [h0]⟩
  · exact ⟨_, _, rfl⟩
theorem MovedW.trans {w wr : World} {a b c : Value} (h : MovedW w a b) (h' : MovedW wr b c) (hs : w.heap.size ≤ wr.heap.size) : MovedW w a c := fun k hk =>
  (h' k hk).elim (h k) fun e => .inr (Nat.le_trans hs e)
theorem MovedW.owns {w : World} {a b : Value} {g : Nat} (h : MovedW w a b) : ∀ k, k < w.heap.size → OwnsW g b k → OwnsW g a k := fun k hk ho =>
  ho.elim .inl fun e => (h k e).elim .inr fun e' => absurd hk (by omega)
end Go.Proofs.Ytopcogogpbcbhaa
