/- What a Peer is in memory (both texts lay it alike): a block of six cells; its numbers in flight in a row of its own. -/
import Derived.Test.YtadamldglebgmaaBase
import Derived.Test.YtadamldglebgmaaPlain
namespace Go.Proofs.Ytadamldglebgmaa
open Go.RowKit

def St.cells (s : St) (fv : Value) : Array Value := #[.int .i64 s.window, .int .i64 s.push, .int .i64 s.last, fv, .int .i64 s.got, .int .i64 s.credit]
def ints (l : List Int) : List Value := l.map (Value.int .i64)

structure PeerAt (w : World) (base : Nat) (T : TypeId) (b : Nat) (fv : Value) (s : St) : Prop where
  box : Box w b T (s.cells fv)
  row : w.ownsRow base 3 1 fv s.fl.length (ints s.fl)
  base_le : base ≤ b

def OwnsB (b : Nat) (fv : Value) (k : Nat) : Prop := k = b ∨ fv.ownBlock = some k
def Moved (w : World) (fv fv' : Value) : Prop := ∀ k, fv'.ownBlock = some k → fv.ownBlock = some k ∨ w.heap.size ≤ k

section
variable {w w' : World} {base b : Nat} {T : TypeId} {fv : Value} {s : St} {S : Nat → Prop}
theorem PeerAt.kept (h : PeerAt w base T b fv s) (hk : Kept S w w') (h1 : ∀ k, OwnsB b fv k → ¬ S k) : PeerAt w' base T b fv s :=
  ⟨h.box.kept hk (h1 b (.inl rfl)), hk.own h.row fun k e => h1 k (.inr e), h.base_le⟩
theorem PeerAt.own_lt (h : PeerAt w base T b fv s) : ∀ k, OwnsB b fv k → base ≤ k ∧ k < w.heap.size := by
  rintro k (rfl | hk)
  · exact ⟨h.base_le, h.box.lt⟩
  · exact h.row.lt k hk
theorem PeerAt.drewN (h : PeerAt w base T b fv s) (n : Nat) : PeerAt (w.drewN n) base T b fv s := ⟨h.box, h.row, h.base_le⟩
theorem PeerAt.form (h : PeerAt w base T b fv s) : ∃ A c, fv = .slice A s.fl.length c ∧ (A = none → s.fl.length = 0 ∧ c = 0) ∧ s.fl.length ≤ c ∧ c ≤ maxLen ∧ Seq w A s.fl := by
  have hr := h.row
  rcases hr.2 with ⟨rfl, h0⟩ | ⟨g, cap, cur, rfl, hb, hg, hnc, hcm, hcs, htake⟩
  · refine ⟨none, 0, by rw [h0], fun _ => ⟨h0, rfl⟩, by omega, by simp [maxLen], Seq.of_own (n := s.fl.length) (c := 0) (base := base) (e := 3) ?_⟩
    rw [h0]; rw [h0] at hr; exact hr
  · exact ⟨some ⟨g, 0, none⟩, cap, rfl, fun e => (by cases e), hnc, hcm, Seq.of_own hr⟩
end
end Go.Proofs.Ytadamldglebgmaa
