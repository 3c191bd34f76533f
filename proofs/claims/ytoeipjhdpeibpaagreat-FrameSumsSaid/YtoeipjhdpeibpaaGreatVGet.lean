/- The walks of Get, Has, Sum of both. Conditions: the Dots lie in memory as DotsAt says. -/
import Derived.Test.YtoeipjhdpeibpaaGreatVSame
namespace Go.Proofs.YtoeipjhdpeibpaaGreat
open Go.RowKit

def IntPost (w : World) (n : Int) (e : Ending) (w' : World) : Prop := e = .returned (.int .i64 n) ∧ Kept (fun _ => False) w w'

theorem getV_yes {l : List Dt} {st : Nat} (h : 1 ≤ st ∧ st ≤ 16) : getV l st = rg (says l) st := by
  unfold getV
  rw [if_pos (by simp [siteB]; omega)]
  rfl
theorem getV_no {l : List Dt} {s : Int} (h : siteB s = false) : getV l s = 0 := by
  unfold getV
  rw [h]
  rfl

set_option maxRecDepth 100000 in
set_option maxHeartbeats 1600000 in
theorem Get_any (A : Option Addr) (l : List Dt) (c : Nat) (site : Int) (w : World) (hl : DotsAt w A l) (hlen : l.length ≤ 4611686018427387904) :
    Calls Tryz.prog 59 #[.slice A l.length c, .int .i64 site] w (IntPost w (getV l site)) := by
  have HL := Lib.hid hl
  clear hl
  cases hs : siteB site with
  | false =>
    rw [getV_no hs]
    have HS := Lib.hid hs
    clear hs
    go_enter Tryz.func59, Tryz.ntmps59
    go_wp2_with (fail)
    refine (isSite_is _ false _ HS.out).mono ?_
    rintro e w1 ⟨rfl, rfl⟩
    go_wp2
    go_ret
    exact ⟨rfl, Kept.refl _ _⟩
  | true =>
    have h : 1 ≤ site ∧ site ≤ 16 := by simpa [siteB] using hs
    obtain ⟨st, rfl⟩ : ∃ st : Nat, site = st := ⟨site.toNat, by omega⟩
    obtain ⟨h1, h2⟩ := h
    obtain ⟨x, hx⟩ : ∃ x, rg (says l) st = x := ⟨_, rfl⟩
    rw [getV_yes (by omega), hx]
    have hix := run_index_row (says l) (Row.says l).len st (by omega)
    rw [hx] at hix
    have HS := Lib.hid hs
    clear hs hx
    go_enter Tryz.func59, Tryz.ntmps59
    go_wp2_with (fail)
    refine (isSite_is _ true _ HS.out).mono ?_
    rintro e w1 ⟨rfl, rfl⟩
    go_wp2_with (fail)
    refine (of_any A l c _ HL.out hlen).mono ?_
    rintro e w1 ⟨rfl, hk⟩
    go_wp2
    go_ret
    exact ⟨rfl, hk⟩

def BoolPost (w : World) (b : Bool) (e : Ending) (w' : World) : Prop := e = .returned (.bool b) ∧ Kept (fun _ => False) w w'

end Go.Proofs.YtoeipjhdpeibpaaGreat
