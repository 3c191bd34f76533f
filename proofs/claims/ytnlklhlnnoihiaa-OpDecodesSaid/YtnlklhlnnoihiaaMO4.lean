/- The walks of Get, Has, Sum of both. Conditions: the Dots lie in memory as DotsAt says. · Operations as plain data: which may be one. No program. -/
import Derived.Test.YtnlklhlnnoihiaaMO3
import Derived.Test.YtnlklhlnnoihiaaMO0
namespace Go.Proofs.Ytnlklhlnnoihiaa
open Go.RowKit

def IntPost (w : World) (n : Int) (e : Ending) (w' : World) : Prop := e = .returned (.int .i64 n) ∧ Kept (fun _ => False) w w'

theorem getV_yes {l : List Dt} {st : Nat} (h : 1 ≤ st ∧ st ≤ 16) : getV l st = rg (says l) st := by
  unfold getV
  rw [if_pos (by simp [siteB]; omega)]
  rfl
theorem getV_no {l : List Dt} {s : Int} (h : siteB s = false) : getV l s = 0 := by
  unfold getV
  rw [h]
  rfl

set_option maxRecDepth 100000 in
set_option maxHeartbeats 1600000 in
theorem Get_any (A : Option Addr) (l : List Dt) (c : Nat) (site : Int) (w : World) (hl : DotsAt w A l) (hlen : l.length ≤ 4611686018427387904) :
    Calls Try.prog 47 #[.slice A l.length c, .int .i64 site] w (IntPost w (getV l site)) := by
  have HL := Lib.hid hl
  clear hl
  cases hs : siteB site with
  | false =>
    rw [getV_no hs]
    have HS := Lib.hid hs
    clear hs
    go_enter Try.func47, Try.ntmps47
    go_wp2_with (fail)
    refine (isSite_is _ false _ HS.out).mono ?_
    rintro e w1 ⟨rfl, rfl⟩
    go_wp2
    go_ret
    exact ⟨rfl, Kept.refl _ _⟩
  | true =>
    have h : 1 ≤ site ∧ site ≤ 16 := by simpa [siteB] using hs
    obtain ⟨st, rfl⟩ : ∃ st : Nat, site = st := ⟨site.toNat, by omega⟩
    obtain ⟨h1, h2⟩ := h
    obtain ⟨x, hx⟩ : ∃ x, rg (says l) st = x := ⟨_, rfl⟩
    rw [getV_yes (by omega), hx]
    have hix := run_index_row (says l) (Row.says l).len st (by omega)
    rw [hx] at hix
    have HS := Lib.hid hs
    clear hs hx
    go_enter Try.func47, Try.ntmps47
    go_wp2_with (fail)
    refine (isSite_is _ true _ HS.out).mono ?_
    rintro e w1 ⟨rfl, rfl⟩
    go_wp2_with (fail)
    refine (of_any A l c _ HL.out hlen).mono ?_
    rintro e w1 ⟨rfl, hk⟩
    go_wp2
    go_ret
    exact ⟨rfl, hk⟩

theorem run_index_Row (r : List Int) (hr : r.length = 17) (k : Nat) (hk : k < 17) (W : World) :
    (Instr.index 124 (.agg (rowV r)) (.int .i64 (k : Int))).run Try.prog W = .ok (.int .i64 (rg r k)) W := by
  have hg := rowV_get r k (by omega)
  have hi : (Try.prog.info? 3).map (fun i => (i.zero, i.size, i.bytes)) = some (some (.int .i64 0), 1, 8) := by kernel_rfl
  obtain ⟨i0, h1, h2, h3, h4⟩ := info_parts hi
  simp [Instr.index, asIntOf, run_underlying Try.underlying124, sizeOf, typeInfo, h1, h3, part, isAgg, run_underlying Try.underlying3, hg, hk]

set_option maxRecDepth 100000 in
set_option maxHeartbeats 1600000 in
theorem RGet_any (A : Option Addr) (l : List Dt) (c : Nat) (site : Int) (w : World) (hl : DotsAt w A l) (hlen : l.length ≤ 4611686018427387904) :
    Calls Try.prog 50 #[.slice A l.length c, .int .i64 site] w (IntPost w (getV l site)) := by
  have HL := Lib.hid hl
  clear hl
  cases hs : siteB site with
  | false =>
    rw [getV_no hs]
    have h : site < 1 ∨ (1 ≤ site ∧ 16 < site) := by simp [siteB] at hs; omega
    clear hs
    rcases h with h | ⟨h, h2⟩
    all_goals
      go_enter Try.func50, Try.ntmps50
      go_wp2
      go_ret
      exact ⟨rfl, Kept.refl _ _⟩
  | true =>
    have h : 1 ≤ site ∧ site ≤ 16 := by simpa [siteB] using hs
    obtain ⟨st, rfl⟩ : ∃ st : Nat, site = st := ⟨site.toNat, by omega⟩
    obtain ⟨h1, h2⟩ := h
    obtain ⟨x, hx⟩ : ∃ x, rg (says l) st = x := ⟨_, rfl⟩
    rw [getV_yes (by omega), hx]
    have hix := run_index_Row (says l) (Row.says l).len st (by omega)
    rw [hx] at hix
    clear hs hx
    go_enter Try.func50, Try.ntmps50
    go_wp2_with (fail)
    refine (Says_any A l c _ HL.out hlen).mono ?_
    rintro e w1 ⟨rfl, hk⟩
    go_wp2
    go_ret
    exact ⟨rfl, hk⟩

def BoolPost (w : World) (b : Bool) (e : Ending) (w' : World) : Prop := e = .returned (.bool b) ∧ Kept (fun _ => False) w w'

end Go.Proofs.Ytnlklhlnnoihiaa

namespace Go.Proofs.Ytnlklhlnnoihiaa
open Go

structure Opr where
  dot : Dt
  deps : List Dt
  kind : Int
  id : Idt
  ref : Idt
  text : ByteArray
  gone : List Rn
  site : Int
/-- The cells of an operation whose lists lie at dA and gA. -/
def Opr.cells (o : Opr) (dA : Option Addr) (dc : Nat) (gA : Option Addr) (gc : Nat) : Array Value :=
  #[.int .i64 o.dot.site, .int .i64 o.dot.seq, .slice dA o.deps.length dc, .int .i64 o.kind, .int .i64 o.id.time, .int .i64 o.id.site, .int .i64 o.ref.time, .int .i64 o.ref.site, .string o.text, .slice gA o.gone.length gc, .int .i64 o.site]
/-- The cells of what can be compared, beside what all kinds have. -/
def restC (id ref : Idt) (text : ByteArray) (site : Int) : Array Value := #[.int .i64 id.time, .int .i64 id.site, .int .i64 ref.time, .int .i64 ref.site, .string text, .int .i64 site]
end Go.Proofs.Ytnlklhlnnoihiaa
