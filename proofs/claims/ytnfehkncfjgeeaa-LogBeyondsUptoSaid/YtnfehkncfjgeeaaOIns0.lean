/- The walk of insert.right. Conditions: the text is no longer than a machine holds. -/
import Derived.Test.YtnfehkncfjgeeaaORight
import Derived.Test.YtnfehkncfjgeeaaTRef
namespace Go.Proofs.Ytnfehkncfjgeeaa
open Go Go.RowKit

theorem neq_id (a b c d : Int) (W : World) : (binOp .neq 42 (.agg #[.int .i64 a, .int .i64 b]) (.agg #[.int .i64 c, .int .i64 d])).run Try.prog W = .ok (.bool (!(decide (a = c ∧ b = d)))) W := by
  have hu : Try.prog.underlying 42 = some (.struct (Try.prog.fieldsOf 42)) := by kernel_rfl
  rw [run_neq_struct, run_equalIn_struct _ _ _ _ _ hu (by kernel_rfl), run_eqFields_id, Result.andThen_ok]
/-- An insert and the operation in boxes, ahead of whatever is done. -/
structure IB (w : World) (g : Nat) (ds dq : Int) (dA : Option Addr) (dn dc : Nat) (kind it is rt rs : Int) (text : ByteArray) (gA : Option Addr) (gn gc : Nat) (site : Int) (W : World) : Prop where
  b1 : Box W g 105 #[.int .i64 it, .int .i64 is, .int .i64 rt, .int .i64 rs, .string text]
  b2 : Box W (g + 1) 45 #[.int .i64 ds, .int .i64 dq, .slice dA dn dc, .int .i64 kind, .int .i64 it, .int .i64 is, .int .i64 rt, .int .i64 rs, .string text, .slice gA gn gc, .int .i64 site]
  k : Kept (fun _ => False) w W
section
variable {w W W' : World} {g : Nat} {ds dq : Int} {dA : Option Addr} {dn dc : Nat} {kind it is rt rs : Int} {text : ByteArray} {gA : Option Addr} {gn gc : Nat} {site : Int}
theorem IB.fresh (h : IB w g ds dq dA dn dc kind it is rt rs text gA gn gc site W) (hk : Kept (fun _ => False) W W') : IB w g ds dq dA dn dc kind it is rt rs text gA gn gc site W' := ⟨h.b1.kept hk id, h.b2.kept hk id, h.k.trans hk fun _ _ e => e⟩
theorem IB.drew (h : IB w g ds dq dA dn dc kind it is rt rs text gA gn gc site W) : IB w g ds dq dA dn dc kind it is rt rs text gA gn gc site W.drew := h.fresh (Kept.refl (fun _ => False) W).drew
theorem IB.S (h : IB w g ds dq dA dn dc kind it is rt rs text gA gn gc site W) :
    (W.cell? ⟨g, 0, none⟩ = some (.int .i64 it) ∧ W.cell? ⟨g, 1, none⟩ = some (.int .i64 is) ∧ W.cell? ⟨g, 2, none⟩ = some (.int .i64 rt) ∧ W.cell? ⟨g, 3, none⟩ = some (.int .i64 rs) ∧ W.cell? ⟨g, 4, none⟩ = some (.string text)) ∧
    W.cell? ⟨g + 1, 0, none⟩ = some (.int .i64 ds) ∧ W.cell? ⟨g + 1, 1, none⟩ = some (.int .i64 dq) ∧ W.cell? ⟨g + 1, 2, none⟩ = some (.slice dA dn dc) ∧ W.cell? ⟨g + 1, 3, none⟩ = some (.int .i64 kind) ∧ W.cell? ⟨g + 1, 4, none⟩ = some (.int .i64 it) ∧ W.cell? ⟨g + 1, 5, none⟩ = some (.int .i64 is) ∧
    W.cell? ⟨g + 1, 6, none⟩ = some (.int .i64 rt) ∧ W.cell? ⟨g + 1, 7, none⟩ = some (.int .i64 rs) ∧ W.cell? ⟨g + 1, 8, none⟩ = some (.string text) ∧ W.cell? ⟨g + 1, 9, none⟩ = some (.slice gA gn gc) ∧ W.cell? ⟨g + 1, 10, none⟩ = some (.int .i64 site) :=
  ⟨⟨h.b1.cell 0, h.b1.cell 1, h.b1.cell 2, h.b1.cell 3, h.b1.cell 4⟩, h.b2.cell 0, h.b2.cell 1, h.b2.cell 2, h.b2.cell 3, h.b2.cell 4, h.b2.cell 5, h.b2.cell 6, h.b2.cell 7, h.b2.cell 8, h.b2.cell 9, h.b2.cell 10⟩
end
/-- The tests of an insert, in their order. -/
def insB (o : Opr) : Bool :=
  decide (o.gone.length = 0) && (sameRest o.id o.ref o.text o.site o.id o.ref o.text 0 && (decide (0 < cnt o.text) && (decide (cnt o.text ≤ 1024) && (decide (badAt o.text < 0) && (decide (o.id.site = o.dot.site) &&
    ((!decide (afterI o.id (cnt o.text - 1) = noId)) && ((decide (o.ref = noId) || decide (afterI o.ref 0 = o.ref)) && decide (o.ref.time < o.id.time))))))))
/-- The facts of a walk of insert.right: gl runs, x2 the rests are alike, n runes, z the first bad byte, e1 and e2 what After says. -/
structure InsF (it is rt rs : Int) (text : ByteArray) (site : Int) (x2 : Bool) (n : Nat) (z : Int) (e1t e1s e2t e2s : Int) (x7 x8 x9 : Bool) : Prop where
  cnt : ∀ W, Calls Try.prog 101 #[.string text] W (IntPost W n)
  bad : ∀ W, Calls Try.prog 103 #[.string text] W (IntPost W z)
  a1 : ∀ W, Calls Try.prog 104 #[.agg #[.int .i64 it, .int .i64 is], .int .i64 ((n : Int) - 1)] W (OfPost W (.agg #[.int .i64 e1t, .int .i64 e1s]))
  a2 : ∀ W, Calls Try.prog 104 #[.agg #[.int .i64 rt, .int .i64 rs], .int .i64 0] W (OfPost W (.agg #[.int .i64 e2t, .int .i64 e2s]))
  q2 : ∀ W, (binOp .eql 145 (.agg #[.int .i64 it, .int .i64 is, .int .i64 rt, .int .i64 rs, .string text, .int .i64 site]) (.agg #[.int .i64 it, .int .i64 is, .int .i64 rt, .int .i64 rs, .string text, .int .i64 0])).run Try.prog W = .ok (.bool x2) W
  q7 : ∀ W, (binOp .neq 42 (.agg #[.int .i64 e1t, .int .i64 e1s]) (.agg #[.int .i64 0, .int .i64 0])).run Try.prog W = .ok (.bool x7) W
  q8 : ∀ W, (binOp .eql 42 (.agg #[.int .i64 rt, .int .i64 rs]) (.agg #[.int .i64 0, .int .i64 0])).run Try.prog W = .ok (.bool x8) W
  q9 : ∀ W, (binOp .eql 42 (.agg #[.int .i64 e2t, .int .i64 e2s]) (.agg #[.int .i64 rt, .int .i64 rs])).run Try.prog W = .ok (.bool x9) W
end Go.Proofs.Ytnfehkncfjgeeaa
