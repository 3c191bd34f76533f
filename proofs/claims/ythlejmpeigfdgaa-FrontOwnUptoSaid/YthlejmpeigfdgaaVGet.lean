/- The walks of Get, Has, Sum of both. Conditions: the Dots lie in memory as DotsAt says. -/
import Derived.Test.YthlejmpeigfdgaaVSame
namespace Go.Proofs.Ythlejmpeigfdgaa
open Go.RowKit

def IntPost (w : World) (n : Int) (e : Ending) (w' : World) : Prop := e = .returned (.int .i64 n) ∧ Kept (fun _ => False) w w'

theorem getV_yes {l : List Dt} {st : Nat} (h : 1 ≤ st ∧ st ≤ 16) : getV l st = rg (says l) st := by
  unfold getV
  rw [if_pos (by simp [siteB]; omega)]
  rfl
theorem getV_no {l : List Dt} {s : Int} (h : siteB s = false) : getV l s = 0 := by
  unfold getV
  rw [h]
  rfl

theorem run_index_Row (r : List Int) (hr : r.length = 17) (k : Nat) (hk : k < 17) (W : World) :
    (Instr.index 79 (.agg (rowV r)) (.int .i64 (k : Int))).run Try.prog W = .ok (.int .i64 (rg r k)) W := by
  have hg := rowV_get r k (by omega)
  have hi : (Try.prog.info? 3).map (fun i => (i.zero, i.size, i.bytes)) = some (some (.int .i64 0), 1, 8) := by kernel_rfl
  obtain ⟨i0, h1, h2, h3, h4⟩ := info_parts hi
  simp [Instr.index, asIntOf, run_underlying Try.underlying79, sizeOf, typeInfo, h1, h3, part, isAgg, run_underlying Try.underlying3, hg, hk]

set_option maxRecDepth 100000 in
set_option maxHeartbeats 1600000 in
theorem RGet_any (A : Option Addr) (l : List Dt) (c : Nat) (site : Int) (w : World) (hl : DotsAt w A l) (hlen : l.length ≤ 4611686018427387904) :
    Calls Try.prog 24 #[.slice A l.length c, .int .i64 site] w (IntPost w (getV l site)) := by
  have HL := Lib.hid hl
  clear hl
  cases hs : siteB site with
  | false =>
    rw [getV_no hs]
    have h : site < 1 ∨ (1 ≤ site ∧ 16 < site) := by simp [siteB] at hs; omega
    clear hs
    rcases h with h | ⟨h, h2⟩
    all_goals
      go_enter Try.func24, Try.ntmps24
      go_wp2
      go_ret
      exact ⟨rfl, Kept.refl _ _⟩
  | true =>
    have h : 1 ≤ site ∧ site ≤ 16 := by simpa [siteB] using hs
    obtain ⟨st, rfl⟩ : ∃ st : Nat, site = st := ⟨site.toNat, by omega⟩
    obtain ⟨h1, h2⟩ := h
    obtain ⟨x, hx⟩ : ∃ x, rg (says l) st = x := ⟨_, rfl⟩
    rw [getV_yes (by omega), hx]
    have hix := run_index_Row (says l) (Row.says l).len st (by omega)
    rw [hx] at hix
    clear hs hx
    go_enter Try.func24, Try.ntmps24
    go_wp2_with (fail)
    refine (Says_any A l c _ HL.out hlen).mono ?_
    rintro e w1 ⟨rfl, hk⟩
    go_wp2
    go_ret
    exact ⟨rfl, hk⟩

def BoolPost (w : World) (b : Bool) (e : Ending) (w' : World) : Prop := e = .returned (.bool b) ∧ Kept (fun _ => False) w w'

end Go.Proofs.Ythlejmpeigfdgaa
