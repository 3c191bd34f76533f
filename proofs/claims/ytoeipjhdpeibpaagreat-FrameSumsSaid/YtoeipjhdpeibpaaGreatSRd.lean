/- A Reader's state as data, and the contracts of Number and Err over it. -/
import Derived.Test.YtoeipjhdpeibpaaGreatSRNum
namespace Go.Proofs.YtoeipjhdpeibpaaGreat
open Go.RowKit

/-- What a Reader is: the bytes that are left, and the error. -/
structure Rd where
  l : List Int
  e : Int
def Rd.val (s : Rd) : Nat := if s.e = 0 then (takeFrom 0 0 s.l).2.1 else 0
def Rd.nx (s : Rd) : Rd := if s.e = 0 then ⟨s.l.drop (takeFrom 0 0 s.l).2.2, (takeFrom 0 0 s.l).1⟩ else s
structure RdAt (w : World) (d g : Nat) (s : Rd) : Prop where
  at_ : ReaderAt w d g s.l s.e
  byte : isByte s.l
theorem RdAt.fresh {w w' : World} {d g : Nat} {s : Rd} (h : RdAt w d g s) (hk : Kept (fun _ => False) w w') : RdAt w' d g s := ⟨h.at_.fresh hk, h.byte⟩
theorem RdAt.kept {S : Nat → Prop} {w w' : World} {d g : Nat} {s : Rd} (h : RdAt w d g s) (hk : Kept S w w') (hg : ¬ S g) (hS : ¬ S d) : RdAt w' d g s := ⟨h.at_.kept hk hg hS, h.byte⟩
theorem Rd.stop {s : Rd} (h : s.e ≠ 0) : s.val = 0 ∧ s.nx = s := ⟨if_neg h, if_neg h⟩
def RdPost (w : World) (d g : Nat) (s : Rd) (r : Ending) (w' : World) : Prop := r = .returned (.int .i64 s.val) ∧ Kept (fun k => k = g) w w' ∧ RdAt w' d g s.nx
theorem RNum_any (d g : Nat) (s : Rd) (w : World) (h : RdAt w d g s) :
    Calls Tryz.prog 53 #[.pointer (some ⟨g, 0, none⟩)] w (RdPost w d g s) := by
  obtain ⟨l, e⟩ := s
  by_cases he : e = 0
  · subst he
    refine (RNumber_any d g l w h.at_ h.byte).mono ?_
    rintro r w' ⟨rfl, hk, hr⟩
    exact ⟨rfl, hk, hr, fun b hb => h.byte b (List.mem_of_mem_drop hb)⟩
  · refine (RNumber_err d g l e w h.at_ he).mono ?_
    rintro r w' ⟨rfl, rfl⟩
    have hs := Rd.stop (s := ⟨l, e⟩) he
    refine ⟨by rw [hs.1]; rfl, Kept.refl _ _, by rw [hs.2]; exact h⟩
theorem RErrs_any (d g : Nat) (s : Rd) (w : World) (h : RdAt w d g s) :
    Calls Tryz.prog 54 #[.pointer (some ⟨g, 0, none⟩)] w (fun r w' => r = .returned (.int .i64 s.e) ∧ w = w') := RErr_any d g s.l s.e w h.at_
end Go.Proofs.YtoeipjhdpeibpaaGreat
