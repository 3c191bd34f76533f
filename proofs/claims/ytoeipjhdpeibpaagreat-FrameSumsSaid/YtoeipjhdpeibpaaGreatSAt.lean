/- What a stamp's Writer and a row of bytes are in memory. -/
import Derived.Test.YtoeipjhdpeibpaaGreatRows
import Derived.Test.YtoeipjhdpeibpaaGreatBase
import Derived.Test.YtoeipjhdpeibpaaGreatSPlain
import Derived.Laws.Tables
import Derived.Laws.Rows
import Derived.Deep.RegionLaw
import Derived.Deep.RegionHeld3
import Derived.Deep.CutBlock
import Derived.Deep.AppendLies
import Derived.Maps.AppendAt
import Derived.Lib.SmallJoins
namespace Go.Proofs.YtoeipjhdpeibpaaGreat
open Go.RowKit

def bys (l : List Int) : List Value := l.map (Value.int .u8)
theorem bys_len (l : List Int) : (bys l).length = l.length := by simp [bys]
theorem bys_get (l : List Int) (k : Nat) (h : k < l.length) : (bys l)[k]? = some (.int .u8 l[k]) := by simp [bys, h]
theorem bys_app (l m : List Int) : bys (l ++ m) = bys l ++ bys m := by simp [bys]
theorem bys_one (l : List Int) : ∀ u ∈ bys l, u.oneCell' = true := by
  intro u hu
  simp only [bys, List.mem_map] at hu
  obtain ⟨d, _, rfl⟩ := hu
  rfl
def BytesAt (w : World) (A : Option Addr) (l : List Int) : Prop := ∀ k (h : k < l.length), ∃ ad, A = some ad ∧ w.cell? (ad.add k) = some (.int .u8 l[k])
structure WriterAt (w : World) (base g : Nat) (sv : Value) (l : List Int) (e : Int) : Prop where
  box : Box w g 50 #[sv, .int .i64 e]
  row : w.ownsRow base 5 1 sv l.length (bys l)
  base_le : base ≤ g
def OwnsW (b : Nat) (fv : Value) (k : Nat) : Prop := k = b ∨ fv.ownBlock = some k
def MovedW (w : World) (fv fv' : Value) : Prop := ∀ k, fv'.ownBlock = some k → fv.ownBlock = some k ∨ w.heap.size ≤ k

section
variable {w w' : World} {A : Option Addr} {l : List Int} {S : Nat → Prop} {base g : Nat} {sv : Value} {e : Int}
theorem BytesAt.kept (h : BytesAt w A l) (hk : Kept S w w') (hA : ∀ a, A = some a → ¬ S a.block) : BytesAt w' A l := fun k hlt => by
  obtain ⟨ad, he, h0⟩ := h k hlt
  have hb : (ad.add k).block = ad.block := by unfold Addr.add; split <;> rfl
  refine ⟨ad, he, ?_⟩
  rw [World.cell?_of_block (w := w) (hk.block _ (World.block_lt_of_cell? w _ h0) (by rw [hb]; exact hA ad he))]
  exact h0
theorem BytesAt.fresh (h : BytesAt w A l) (hk : Kept (fun _ => False) w w') : BytesAt w' A l := h.kept hk fun _ _ => id
theorem BytesAt.nil : BytesAt w A [] := fun k h => absurd h (by simp)
theorem BytesAt.of_own {n c : Nat} (h : w.ownsRow base 5 1 (.slice A n c) n (bys l)) : BytesAt w A l := fun k hlt => by
  have hz := h.1
  rw [bys_len] at hz
  rcases h.2 with ⟨_, h0⟩ | ⟨g, cap, cur, hv, _⟩
  · omega
  · injection hv with hA
    subst hA
    exact ⟨_, rfl, h.cells (g := g) rfl _ _ (bys_get l k hlt)⟩
theorem WriterAt.kept (h : WriterAt w base g sv l e) (hk : Kept S w w') (h1 : ∀ k, OwnsW g sv k → ¬ S k) : WriterAt w' base g sv l e :=
  ⟨h.box.kept hk (h1 g (.inl rfl)), hk.own h.row fun k e => h1 k (.inr e), h.base_le⟩
theorem WriterAt.fresh (h : WriterAt w base g sv l e) (hk : Kept (fun _ => False) w w') : WriterAt w' base g sv l e := h.kept hk fun _ _ => id
theorem WriterAt.own_lt (h : WriterAt w base g sv l e) : ∀ k, OwnsW g sv k → base ≤ k ∧ k < w.heap.size := by
  rintro k (rfl | hk)
  · exact ⟨h.base_le, h.box.lt⟩
  · exact h.row.lt k hk
theorem WriterAt.form (h : WriterAt w base g sv l e) : ∃ A c, sv = .slice A l.length c := by
  rcases Go.Joins.ownsRow_forms h.row with ⟨rfl, h0⟩ | ⟨g, cap, rfl⟩
  · exact ⟨none, 0, by rw [h0]⟩
  · exact ⟨_, _, rfl⟩
end
theorem info_byte : (Tryz.prog.info? 5).map (fun i => (i.zero, i.size, i.bytes)) = some (some (.int .u8 0), 1, 1) := by kernel_rfl

def WPost (w : World) (base g : Nat) (sv : Value) (l : List Int) (e : Int) (r : Ending) (w' : World) : Prop :=
  r = .returned (.tuple #[]) ∧ ∃ sv', WriterAt w' base g sv' l e ∧ Kept (OwnsW g sv) w w' ∧ MovedW w sv sv'
theorem WPost.same {w w' : World} {base g : Nat} {sv : Value} {l : List Int} {e : Int} {r : Ending} (hr : r = .returned (.tuple #[])) (h : WriterAt w' base g sv l e) (hk : Kept (OwnsW g sv) w w') : WPost w base g sv l e r w' :=
  ⟨hr, sv, h, hk, fun _ h => .inl h⟩
end Go.Proofs.YtoeipjhdpeibpaaGreat
