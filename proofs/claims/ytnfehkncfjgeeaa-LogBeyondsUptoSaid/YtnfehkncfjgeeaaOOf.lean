/- The walks of op.of and restOf, and what == says of the rest. No condition. -/
import Derived.Test.YtnfehkncfjgeeaaOPlain
import Derived.Test.YtnfehkncfjgeeaaRChk
namespace Go.Proofs.Ytnfehkncfjgeeaa
open Go Go.RowKit

/-- What a kind does, as the program boxes it. -/
def ofV (o : Opr) (gA : Option Addr) (gc : Nat) : Value :=
  if o.kind = 1 then .iface 105 (.agg #[.int .i64 o.id.time, .int .i64 o.id.site, .int .i64 o.ref.time, .int .i64 o.ref.site, .string o.text])
  else if o.kind = 2 then .iface 107 (.agg #[.slice gA o.gone.length gc])
  else if o.kind = 3 then .iface 109 (.agg #[.int .i64 o.site])
  else if o.kind = 4 then .iface 111 (.agg #[])
  else .nilIface
def OfPost (w : World) (v : Value) (e : Ending) (w' : World) : Prop := e = .returned v ∧ Kept (fun _ => False) w w'
set_option maxRecDepth 100000 in
set_option maxHeartbeats 1600000 in
theorem opof_any (o : Opr) (dA gA : Option Addr) (dc gc : Nat) (w : World) : Calls Try.prog 66 #[.agg (o.cells dA dc gA gc)] w (OfPost w (ofV o gA gc)) := by
  have HK := Lib.hid ((Kept.refl (fun _ => False) w).alloc (.cells (o.cells dA dc gA gc) 45))
  obtain ⟨⟨ds, dq⟩, deps, kind, ⟨it, is⟩, ⟨rt, rs⟩, text, gone, site⟩ := o
  obtain ⟨x, hx⟩ : ∃ x, ofV ⟨⟨ds, dq⟩, deps, kind, ⟨it, is⟩, ⟨rt, rs⟩, text, gone, site⟩ gA gc = x := ⟨_, rfl⟩
  rw [hx]
  unfold ofV at hx
  unfold Opr.cells at *
  simp only at HK hx ⊢
  rcases (by omega : kind = 1 ∨ kind = 2 ∨ kind = 3 ∨ kind = 4 ∨ (kind ≠ 1 ∧ kind ≠ 2 ∧ kind ≠ 3 ∧ kind ≠ 4)) with rfl | rfl | rfl | rfl | ⟨h1, h2, h3, h4⟩
  iterate 4
    · simp at hx
      have HX := Lib.hid hx
      clear hx
      go_enter Try.func66, Try.ntmps66
      go_wp2
      go_ret
      exact ⟨by rw [← HX.out]; rfl, HK.out⟩
  · rw [if_neg h1, if_neg h2, if_neg h3, if_neg h4] at hx
    have HX := Lib.hid hx
    clear hx
    go_enter Try.func66, Try.ntmps66
    go_wp2
    go_ret
    exact ⟨by rw [← HX.out]; rfl, HK.out⟩

theorem size_rest : (Try.prog.info? 145).map (·.size) = some 6 := by kernel_rfl
set_option maxRecDepth 100000 in
set_option maxHeartbeats 1600000 in
theorem restOf_any (o : Opr) (dA gA : Option Addr) (dc gc : Nat) (w : World) : Calls Try.prog 102 #[.agg (o.cells dA dc gA gc)] w (OfPost w (.agg (restC o.id o.ref o.text o.site))) := by
  obtain ⟨⟨ds, dq⟩, deps, kind, ⟨it, is⟩, ⟨rt, rs⟩, text, gone, site⟩ := o
  unfold Opr.cells restC
  simp only
  go_enter Try.func102, Try.ntmps102
  go_wp2
  exact bodyPost_ret (results_cell_row (show Try.f102.results = #[.cell 2 145] by kernel_rfl) _ _ (w.heap.size + 1) 145 #[.int .i64 it, .int .i64 is, .int .i64 rt, .int .i64 rs, .string text, .int .i64 site] (0, 0) _ rfl ((Box.new _ _ _).at_eq (by simp)) Try.underlying145 rfl (size_rest.trans rfl)) rfl ⟨rfl, ((Kept.refl _ _).alloc _).alloc _⟩
end Go.Proofs.Ytnfehkncfjgeeaa
