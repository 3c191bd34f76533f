/- The walk of remove.right. Conditions: the runs lie in memory as RunsAt says; numbers are those of Go's int. -/
import Derived.Test.YtnfehkncfjgeeaaOEq
namespace Go.Proofs.Ytnfehkncfjgeeaa
open Go Go.RowKit

/-- May these runs go? -/
def removeB (o : Opr) : Bool := sameRest o.id o.ref o.text o.site noId noId ⟨#[]⟩ 0 && (decide (0 < o.gone.length) && (decide (o.gone.length ≤ 1024) && decide (chkR [] o.gone = 0)))
set_option maxRecDepth 100000 in
set_option maxHeartbeats 3200000 in
theorem remove_any (o : Opr) (dA gA : Option Addr) (dc gc : Nat) (w : World) (hr : RunsAt w gA o.gone) (hc : ∀ r ∈ o.gone, inI r.count) (hg : o.gone.length ≤ 1000000) :
    Calls Try.prog 111 #[.agg #[.slice gA o.gone.length gc], .agg (o.cells dA dc gA gc)] w (BoolPost w (removeB o)) := by
  obtain ⟨⟨ds, dq⟩, deps, kind, ⟨it, is⟩, ⟨rt, rs⟩, text, gone, site⟩ := o
  simp only at hr hc hg
  have HRU := Lib.hid hr
  have HC := Lib.hid hc
  obtain ⟨x, hx⟩ : ∃ x, sameRest ⟨it, is⟩ ⟨rt, rs⟩ text site noId noId ⟨#[]⟩ 0 = x := ⟨_, rfl⟩
  have hq := fun W => eql_rest ⟨it, is⟩ ⟨rt, rs⟩ text site noId noId ⟨#[]⟩ 0 W
  rw [hx] at hq
  obtain ⟨y, hy⟩ : ∃ y, chkR [] gone = y := ⟨_, rfl⟩
  have HY := Lib.hid hy
  obtain ⟨b, hb⟩ : ∃ b, removeB ⟨⟨ds, dq⟩, deps, kind, ⟨it, is⟩, ⟨rt, rs⟩, text, gone, site⟩ = b := ⟨_, rfl⟩
  rw [hb]
  unfold removeB at hb
  simp only at hb
  rw [hx, hy] at hb
  unfold restC noId at hq
  unfold Opr.cells
  simp only at hq ⊢
  have hcase : (x = false ∧ b = false) ∨ (x = true ∧ gone.length = 0 ∧ b = false) ∨ (x = true ∧ 0 < gone.length ∧ 1024 < gone.length ∧ b = false) ∨ (x = true ∧ 0 < gone.length ∧ gone.length ≤ 1024 ∧ b = decide (y = 0)) := by
    cases x with
    | false => exact .inl ⟨rfl, hb.symm⟩
    | true =>
      rw [Bool.true_and] at hb
      by_cases h1 : 0 < gone.length
      · rw [decide_eq_true h1, Bool.true_and] at hb
        by_cases h2 : gone.length ≤ 1024
        · rw [decide_eq_true h2, Bool.true_and] at hb
          exact .inr (.inr (.inr ⟨rfl, h1, h2, hb.symm⟩))
        · rw [decide_eq_false h2, Bool.false_and] at hb
          exact .inr (.inr (.inl ⟨rfl, h1, by omega, hb.symm⟩))
      · rw [decide_eq_false h1, Bool.false_and] at hb
        exact .inr (.inl ⟨rfl, by omega, hb.symm⟩)
  have HR := Lib.hid (show ∀ W, Calls Try.prog 102 #[.agg #[.int .i64 ds, .int .i64 dq, .slice dA deps.length dc, .int .i64 kind, .int .i64 it, .int .i64 is, .int .i64 rt, .int .i64 rs, .string text, .slice gA gone.length gc, .int .i64 site]] W (OfPost W (.agg #[.int .i64 it, .int .i64 is, .int .i64 rt, .int .i64 rs, .string text, .int .i64 site])) from fun W => restOf_any ⟨⟨ds, dq⟩, deps, kind, ⟨it, is⟩, ⟨rt, rs⟩, text, gone, site⟩ dA gA dc gc W)
  have HS := Lib.hid (show ∀ W, RunsAt W gA gone → Calls Try.prog 112 #[.slice gA gone.length gc] W (IntPost W y) from fun W h => by rw [← hy]; exact SCheck_any gA gone gc W h hc hg)
  have HB1 := Lib.hid ((Box.new w 107 #[.slice gA gone.length gc]).alloc (.cells #[.int .i64 ds, .int .i64 dq, .slice dA deps.length dc, .int .i64 kind, .int .i64 it, .int .i64 is, .int .i64 rt, .int .i64 rs, .string text, .slice gA gone.length gc, .int .i64 site] 45))
  have HK := Lib.hid (((Kept.refl (fun _ => False) w).alloc (.cells #[.slice gA gone.length gc] 107)).alloc (.cells #[.int .i64 ds, .int .i64 dq, .slice dA deps.length dc, .int .i64 kind, .int .i64 it, .int .i64 is, .int .i64 rt, .int .i64 rs, .string text, .slice gA gone.length gc, .int .i64 site] 45))
  clear hx hy hb hr hc
  rcases hcase with ⟨rfl, rfl⟩ | ⟨rfl, h1, rfl⟩ | ⟨rfl, h1, h2, rfl⟩ | ⟨rfl, h1, h2, rfl⟩
  · generalize gone.length = gl at *
    clear HRU HC HY HS
    go_enter Try.func111, Try.ntmps111
    go_wp2_with (fail)
    refine (HR.out _).mono ?_
    unfold OfPost
    rintro e w2 ⟨rfl, hk⟩
    have HK2 := Lib.hid (HK.out.trans hk fun _ _ e => e)
    clear hk
    go_wp2_with (fail)
    go_ret
    exact ⟨rfl, HK2.out⟩
  · have H1 := Lib.hid h1
    have hn0 : decide (0 < gone.length) = false := decide_eq_false (by omega)
    have hle : gone.length ≤ 0 := by omega
    clear HRU HC HY HS h1
    generalize gone.length = gl at *
    go_enter Try.func111, Try.ntmps111
    go_wp2_with (fail)
    refine (HR.out _).mono ?_
    unfold OfPost
    rintro e w2 ⟨rfl, hk⟩
    have c0 : w2.cell? ⟨w.heap.size, 0, none⟩ = some (.slice gA gl gc) := (HB1.out.kept hk id).cell 0
    have HK2 := Lib.hid (HK.out.trans hk fun _ _ e => e)
    clear hk
    go_wp2_with (fail)
    go_ret
    exact ⟨rfl, HK2.out⟩
  · have hn0 : decide (0 < gone.length) = true := decide_eq_true h1
    clear HRU HC HY HS
    generalize gone.length = gl at *
    go_enter Try.func111, Try.ntmps111
    go_wp2_with (fail)
    refine (HR.out _).mono ?_
    unfold OfPost
    rintro e w2 ⟨rfl, hk⟩
    have c0 : w2.cell? ⟨w.heap.size, 0, none⟩ = some (.slice gA gl gc) := (HB1.out.kept hk id).cell 0
    have HK2 := Lib.hid (HK.out.trans hk fun _ _ e => e)
    clear hk
    go_wp2_with (fail)
    go_ret
    exact ⟨rfl, HK2.out⟩
  · have hn0 : decide (0 < gone.length) = true := decide_eq_true h1
    go_enter Try.func111, Try.ntmps111
    go_wp2_with (fail)
    refine (HR.out _).mono ?_
    unfold OfPost
    rintro e w2 ⟨rfl, hk⟩
    have c0 : w2.cell? ⟨w.heap.size, 0, none⟩ = some (.slice gA gone.length gc) := (HB1.out.kept hk id).cell 0
    have HK2 := Lib.hid (HK.out.trans hk fun _ _ e => e)
    clear hk
    go_wp2_with (fail)
    refine (HS.out _ (HRU.out.fresh HK2.out)).mono ?_
    unfold IntPost
    rintro e w3 ⟨rfl, hk⟩
    have HK3 := Lib.hid (HK2.out.trans hk fun _ _ e => e)
    clear hk
    go_wp2_with (fail)
    go_ret
    exact ⟨congrArg Ending.returned (congrArg Value.bool (by (first | rfl | simp))), HK3.out⟩
end Go.Proofs.Ytnfehkncfjgeeaa
