/- The walk of insert.right. Conditions: the text is no longer than a machine holds. · The walk of insert.right: paths ins_1 ins_2 ins_3 ins_4 ins_5 ins_6. · The walk of insert.right: paths ins_7 ins_8. -/
import Derived.Test.YtnajbkccaclkcaaGreatIM17
import Derived.Test.YtnajbkccaclkcaaGreatIM19
namespace Go.Proofs.YtnajbkccaclkcaaGreat
open Go Go.RowKit

theorem neq_id (a b c d : Int) (W : World) : (binOp .neq 61 (.agg #[.int .i64 a, .int .i64 b]) (.agg #[.int .i64 c, .int .i64 d])).run Tryz.prog W = .ok (.bool (!(decide (a = c ∧ b = d)))) W := by
  have hu : Tryz.prog.underlying 61 = some (.struct (Tryz.prog.fieldsOf 61)) := by kernel_rfl
  rw [run_neq_struct, run_equalIn_struct _ _ _ _ _ hu (by kernel_rfl), run_eqFields_id, Result.andThen_ok]
/-- An insert and the operation in boxes, ahead of whatever is done. -/
structure IB (w : World) (g : Nat) (ds dq : Int) (dA : Option Addr) (dn dc : Nat) (kind it is rt rs : Int) (text : ByteArray) (gA : Option Addr) (gn gc : Nat) (site : Int) (W : World) : Prop where
  b1 : Box W g 158 #[.int .i64 it, .int .i64 is, .int .i64 rt, .int .i64 rs, .string text]
  b2 : Box W (g + 1) 64 #[.int .i64 ds, .int .i64 dq, .slice dA dn dc, .int .i64 kind, .int .i64 it, .int .i64 is, .int .i64 rt, .int .i64 rs, .string text, .slice gA gn gc, .int .i64 site]
  k : Kept (fun _ => False) w W
section
variable {w W W' : World} {g : Nat} {ds dq : Int} {dA : Option Addr} {dn dc : Nat} {kind it is rt rs : Int} {text : ByteArray} {gA : Option Addr} {gn gc : Nat} {site : Int}
theorem IB.fresh (h : IB w g ds dq dA dn dc kind it is rt rs text gA gn gc site W) (hk : Kept (fun _ => False) W W') : IB w g ds dq dA dn dc kind it is rt rs text gA gn gc site W' := ⟨h.b1.kept hk id, h.b2.kept hk id, h.k.trans hk fun _ _ e => e⟩
theorem IB.drew (h : IB w g ds dq dA dn dc kind it is rt rs text gA gn gc site W) : IB w g ds dq dA dn dc kind it is rt rs text gA gn gc site W.drew := h.fresh (Kept.refl (fun _ => False) W).drew
theorem IB.S (h : IB w g ds dq dA dn dc kind it is rt rs text gA gn gc site W) :
    (W.cell? ⟨g, 0, none⟩ = some (.int .i64 it) ∧ W.cell? ⟨g, 1, none⟩ = some (.int .i64 is) ∧ W.cell? ⟨g, 2, none⟩ = some (.int .i64 rt) ∧ W.cell? ⟨g, 3, none⟩ = some (.int .i64 rs) ∧ W.cell? ⟨g, 4, none⟩ = some (.string text)) ∧
    W.cell? ⟨g + 1, 0, none⟩ = some (.int .i64 ds) ∧ W.cell? ⟨g + 1, 1, none⟩ = some (.int .i64 dq) ∧ W.cell? ⟨g + 1, 2, none⟩ = some (.slice dA dn dc) ∧ W.cell? ⟨g + 1, 3, none⟩ = some (.int .i64 kind) ∧ W.cell? ⟨g + 1, 4, none⟩ = some (.int .i64 it) ∧ W.cell? ⟨g + 1, 5, none⟩ = some (.int .i64 is) ∧
    W.cell? ⟨g + 1, 6, none⟩ = some (.int .i64 rt) ∧ W.cell? ⟨g + 1, 7, none⟩ = some (.int .i64 rs) ∧ W.cell? ⟨g + 1, 8, none⟩ = some (.string text) ∧ W.cell? ⟨g + 1, 9, none⟩ = some (.slice gA gn gc) ∧ W.cell? ⟨g + 1, 10, none⟩ = some (.int .i64 site) :=
  ⟨⟨h.b1.cell 0, h.b1.cell 1, h.b1.cell 2, h.b1.cell 3, h.b1.cell 4⟩, h.b2.cell 0, h.b2.cell 1, h.b2.cell 2, h.b2.cell 3, h.b2.cell 4, h.b2.cell 5, h.b2.cell 6, h.b2.cell 7, h.b2.cell 8, h.b2.cell 9, h.b2.cell 10⟩
end
/-- The tests of an insert, in their order. -/
def insB (o : Opr) : Bool :=
  decide (o.gone.length = 0) && (sameRest o.id o.ref o.text o.site o.id o.ref o.text 0 && (decide (0 < cnt o.text) && (decide (cnt o.text ≤ 1024) && (decide (badAt o.text < 0) && (decide (o.id.site = o.dot.site) &&
    ((!decide (afterI o.id (cnt o.text - 1) = noId)) && ((decide (o.ref = noId) || decide (afterI o.ref 0 = o.ref)) && decide (o.ref.time < o.id.time))))))))
/-- The facts of a walk of insert.right: gl runs, x2 the rests are alike, n runes, z the first bad byte, e1 and e2 what After says. -/
structure InsF (it is rt rs : Int) (text : ByteArray) (site : Int) (x2 : Bool) (n : Nat) (z : Int) (e1t e1s e2t e2s : Int) (x7 x8 x9 : Bool) : Prop where
  cnt : ∀ W, Calls Tryz.prog 142 #[.string text] W (IntPost W n)
  bad : ∀ W, Calls Tryz.prog 145 #[.string text] W (IntPost W z)
  a1 : ∀ W, Calls Tryz.prog 104 #[.agg #[.int .i64 it, .int .i64 is], .int .i64 ((n : Int) - 1)] W (OfPost W (.agg #[.int .i64 e1t, .int .i64 e1s]))
  a2 : ∀ W, Calls Tryz.prog 104 #[.agg #[.int .i64 rt, .int .i64 rs], .int .i64 0] W (OfPost W (.agg #[.int .i64 e2t, .int .i64 e2s]))
  q2 : ∀ W, (binOp .eql 199 (.agg #[.int .i64 it, .int .i64 is, .int .i64 rt, .int .i64 rs, .string text, .int .i64 site]) (.agg #[.int .i64 it, .int .i64 is, .int .i64 rt, .int .i64 rs, .string text, .int .i64 0])).run Tryz.prog W = .ok (.bool x2) W
  q7 : ∀ W, (binOp .neq 61 (.agg #[.int .i64 e1t, .int .i64 e1s]) (.agg #[.int .i64 0, .int .i64 0])).run Tryz.prog W = .ok (.bool x7) W
  q8 : ∀ W, (binOp .eql 61 (.agg #[.int .i64 rt, .int .i64 rs]) (.agg #[.int .i64 0, .int .i64 0])).run Tryz.prog W = .ok (.bool x8) W
  q9 : ∀ W, (binOp .eql 61 (.agg #[.int .i64 e2t, .int .i64 e2s]) (.agg #[.int .i64 rt, .int .i64 rs])).run Tryz.prog W = .ok (.bool x9) W
end Go.Proofs.YtnajbkccaclkcaaGreat

namespace Go.Proofs.YtnajbkccaclkcaaGreat
open Go Go.RowKit
set_option maxRecDepth 100000 in
set_option maxHeartbeats 3200000 in
theorem ins_1 (ds dq kind it is rt rs site : Int) (deps : List Dt) (text : ByteArray) (dA gA : Option Addr) (dc gc gl : Nat) (n : Nat) (z e1t e1s e2t e2s : Int) (x2 x7 x8 x9 : Bool) (w : World)
    (HI : Hid (InsF it is rt rs text site x2 n z e1t e1s e2t e2s x7 x8 x9)) (hgl : 0 < gl) (hg63 : gl ≤ 1000000) :
    Calls Tryz.prog 140 #[.agg #[.int .i64 it, .int .i64 is, .int .i64 rt, .int .i64 rs, .string text], .agg #[.int .i64 ds, .int .i64 dq, .slice dA deps.length dc, .int .i64 kind, .int .i64 it, .int .i64 is, .int .i64 rt, .int .i64 rs, .string text, .slice gA gl gc, .int .i64 site]] w (BoolPost w false) := by
  have hne : ((gl : Int) == 0) = false := by simp; omega
  have hne2 : decide (gl = 0) = false := decide_eq_false (by omega)
  have hne3 : (gl : Int) ≠ 0 := by omega
  have HZ := Lib.hid (show IB w w.heap.size ds dq dA deps.length dc kind it is rt rs text gA gl gc site ((w.alloc (.cells #[.int .i64 it, .int .i64 is, .int .i64 rt, .int .i64 rs, .string text] 158)).alloc (.cells #[.int .i64 ds, .int .i64 dq, .slice dA deps.length dc, .int .i64 kind, .int .i64 it, .int .i64 is, .int .i64 rt, .int .i64 rs, .string text, .slice gA gl gc, .int .i64 site] 64)) from ⟨(Box.new w 158 #[.int .i64 it, .int .i64 is, .int .i64 rt, .int .i64 rs, .string text]).alloc _, (Box.new (w.alloc (.cells #[.int .i64 it, .int .i64 is, .int .i64 rt, .int .i64 rs, .string text] 158)) 64 #[.int .i64 ds, .int .i64 dq, .slice dA deps.length dc, .int .i64 kind, .int .i64 it, .int .i64 is, .int .i64 rt, .int .i64 rs, .string text, .slice gA gl gc, .int .i64 site]).at_eq (by simp), ((Kept.refl _ _).alloc _).alloc _⟩)
  go_enter Tryz.func140, Tryz.ntmps140
  go_wp2_with (fail)
  refine (HI.out.cnt _).mono ?_
  unfold IntPost
  rintro e w1 ⟨rfl, hk⟩
  have HZ1 := Lib.hid (HZ.out.fresh hk)
  clear hk HZ
  go_wp2_with (fail)
  refine wp_region_class (l := _ :: _ :: _ :: _ :: _ :: _ :: _ :: _ :: _ :: _ :: _ :: _ :: _ :: _ :: _ :: _ :: _ :: _ :: _ :: _ :: _ :: _ :: _ :: _ :: _ :: _ :: _ :: _ :: _ :: _ :: _ :: _ :: _ :: _ :: _ :: _ :: _ :: _ :: _ :: _ :: _ :: _ :: _ :: _ :: _ :: _ :: _ :: _ :: _ :: _ :: _ :: _ :: _ :: _ :: _ :: _ :: _ :: _ :: _ :: _ :: _ :: _ :: _ :: _ :: _ :: _ :: _ :: _ :: _ :: _ :: _ :: _ :: []) (C := fun w' => IB w w.heap.size ds dq dA deps.length dc kind it is rt rs text gA gl gc site w') (by kernel_rfl) (by kernel_rfl) HZ1.out.drew ?_
  repeat
    first | go_big_quiet_skip | (go_big_quiet_want; first | (go_big_quiet_op; go_big_quiet_on) | (apply Exists.intro; refine ⟨fun w' hS => ?_, ?_⟩; (have HJ := hS; obtain ⟨⟨i0, i1, i2, i3, i4⟩, c0, c1, c2, c3, c4, c5, c6, c7, c8, c9, c10⟩ := IB.S hS; go_simp; first | rfl | exact ⟨rfl, rfl⟩ | (fail)); (try simp only [Act.put, List.setIfInBounds_toArray, List.set_cons_zero, List.set_cons_succ]); go_big_quiet_on))
  refine wpQuiet_nil ?_
  intro w3 hJ
  have HJ3 := Lib.hid hJ
  clear hJ
  go_wp2
  go_ret
  exact ⟨rfl, HJ3.out.k⟩
set_option maxRecDepth 100000 in
set_option maxHeartbeats 3200000 in
theorem ins_2 (ds dq kind it is rt rs site : Int) (deps : List Dt) (text : ByteArray) (dA gA : Option Addr) (dc gc : Nat) (n : Nat) (z e1t e1s e2t e2s : Int) (x2 x7 x8 x9 : Bool) (w : World)
    (HI : Hid (InsF it is rt rs text site x2 n z e1t e1s e2t e2s x7 x8 x9)) (h2 : x2 = false) :
    Calls Tryz.prog 140 #[.agg #[.int .i64 it, .int .i64 is, .int .i64 rt, .int .i64 rs, .string text], .agg #[.int .i64 ds, .int .i64 dq, .slice dA deps.length dc, .int .i64 kind, .int .i64 it, .int .i64 is, .int .i64 rt, .int .i64 rs, .string text, .slice gA 0 gc, .int .i64 site]] w (BoolPost w false) := by
  have q2 := HI.out.q2
  rw [h2] at q2
  clear h2
  have HZ := Lib.hid (show IB w w.heap.size ds dq dA deps.length dc kind it is rt rs text gA 0 gc site ((w.alloc (.cells #[.int .i64 it, .int .i64 is, .int .i64 rt, .int .i64 rs, .string text] 158)).alloc (.cells #[.int .i64 ds, .int .i64 dq, .slice dA deps.length dc, .int .i64 kind, .int .i64 it, .int .i64 is, .int .i64 rt, .int .i64 rs, .string text, .slice gA 0 gc, .int .i64 site] 64)) from ⟨(Box.new w 158 #[.int .i64 it, .int .i64 is, .int .i64 rt, .int .i64 rs, .string text]).alloc _, (Box.new (w.alloc (.cells #[.int .i64 it, .int .i64 is, .int .i64 rt, .int .i64 rs, .string text] 158)) 64 #[.int .i64 ds, .int .i64 dq, .slice dA deps.length dc, .int .i64 kind, .int .i64 it, .int .i64 is, .int .i64 rt, .int .i64 rs, .string text, .slice gA 0 gc, .int .i64 site]).at_eq (by simp), ((Kept.refl _ _).alloc _).alloc _⟩)
  have HR := Lib.hid (show ∀ W, Calls Tryz.prog 144 #[.agg #[.int .i64 ds, .int .i64 dq, .slice dA deps.length dc, .int .i64 kind, .int .i64 it, .int .i64 is, .int .i64 rt, .int .i64 rs, .string text, .slice gA 0 gc, .int .i64 site]] W (OfPost W (.agg #[.int .i64 it, .int .i64 is, .int .i64 rt, .int .i64 rs, .string text, .int .i64 site])) from fun W => restOf_any ⟨⟨ds, dq⟩, deps, kind, ⟨it, is⟩, ⟨rt, rs⟩, text, [], site⟩ dA gA dc gc W)
  go_enter Tryz.func140, Tryz.ntmps140
  go_wp2_with (fail)
  refine (HI.out.cnt _).mono ?_
  unfold IntPost
  rintro e w1 ⟨rfl, hk⟩
  have HZ1 := Lib.hid (HZ.out.fresh hk)
  clear hk HZ
  go_wp2_with (fail)
  refine wp_region_class (l := _ :: _ :: _ :: _ :: _ :: _ :: _ :: _ :: _ :: _ :: _ :: _ :: _ :: _ :: _ :: _ :: _ :: _ :: _ :: _ :: _ :: _ :: _ :: _ :: _ :: _ :: _ :: _ :: _ :: _ :: _ :: _ :: _ :: _ :: _ :: _ :: _ :: _ :: _ :: _ :: _ :: _ :: _ :: _ :: _ :: _ :: _ :: _ :: _ :: _ :: _ :: _ :: _ :: _ :: _ :: _ :: _ :: _ :: _ :: _ :: _ :: _ :: _ :: _ :: _ :: _ :: _ :: _ :: _ :: _ :: _ :: _ :: []) (C := fun w' => IB w w.heap.size ds dq dA deps.length dc kind it is rt rs text gA 0 gc site w') (by kernel_rfl) (by kernel_rfl) HZ1.out.drew ?_
  repeat
    first | go_big_quiet_skip | (go_big_quiet_want; first | (go_big_quiet_op; go_big_quiet_on) | (apply Exists.intro; refine ⟨fun w' hS => ?_, ?_⟩; (have HJ := hS; obtain ⟨⟨i0, i1, i2, i3, i4⟩, c0, c1, c2, c3, c4, c5, c6, c7, c8, c9, c10⟩ := IB.S hS; go_simp; first | rfl | exact ⟨rfl, rfl⟩ | (go_at_call 144; (with_reducible refine (HR.out _).mono ?_); unfold OfPost; rintro e w2 ⟨rfl, hk⟩; exact ⟨rfl, IB.fresh HJ hk⟩) | (fail)); (try simp only [Act.put, List.setIfInBounds_toArray, List.set_cons_zero, List.set_cons_succ]); go_big_quiet_on))
  refine wpQuiet_nil ?_
  intro w3 hJ
  have HJ3 := Lib.hid hJ
  clear hJ
  go_wp2
  go_ret
  exact ⟨rfl, HJ3.out.k⟩
set_option maxRecDepth 100000 in
set_option maxHeartbeats 3200000 in
theorem ins_3 (ds dq kind it is rt rs site : Int) (deps : List Dt) (text : ByteArray) (dA gA : Option Addr) (dc gc : Nat) (n : Nat) (z e1t e1s e2t e2s : Int) (x2 x7 x8 x9 : Bool) (w : World)
    (HI : Hid (InsF it is rt rs text site x2 n z e1t e1s e2t e2s x7 x8 x9)) (h2 : x2 = true) (h3 : n = 0) :
    Calls Tryz.prog 140 #[.agg #[.int .i64 it, .int .i64 is, .int .i64 rt, .int .i64 rs, .string text], .agg #[.int .i64 ds, .int .i64 dq, .slice dA deps.length dc, .int .i64 kind, .int .i64 it, .int .i64 is, .int .i64 rt, .int .i64 rs, .string text, .slice gA 0 gc, .int .i64 site]] w (BoolPost w false) := by
  subst h3
  have q2 := HI.out.q2
  rw [h2] at q2
  clear h2
  have HZ := Lib.hid (show IB w w.heap.size ds dq dA deps.length dc kind it is rt rs text gA 0 gc site ((w.alloc (.cells #[.int .i64 it, .int .i64 is, .int .i64 rt, .int .i64 rs, .string text] 158)).alloc (.cells #[.int .i64 ds, .int .i64 dq, .slice dA deps.length dc, .int .i64 kind, .int .i64 it, .int .i64 is, .int .i64 rt, .int .i64 rs, .string text, .slice gA 0 gc, .int .i64 site] 64)) from ⟨(Box.new w 158 #[.int .i64 it, .int .i64 is, .int .i64 rt, .int .i64 rs, .string text]).alloc _, (Box.new (w.alloc (.cells #[.int .i64 it, .int .i64 is, .int .i64 rt, .int .i64 rs, .string text] 158)) 64 #[.int .i64 ds, .int .i64 dq, .slice dA deps.length dc, .int .i64 kind, .int .i64 it, .int .i64 is, .int .i64 rt, .int .i64 rs, .string text, .slice gA 0 gc, .int .i64 site]).at_eq (by simp), ((Kept.refl _ _).alloc _).alloc _⟩)
  have HR := Lib.hid (show ∀ W, Calls Tryz.prog 144 #[.agg #[.int .i64 ds, .int .i64 dq, .slice dA deps.length dc, .int .i64 kind, .int .i64 it, .int .i64 is, .int .i64 rt, .int .i64 rs, .string text, .slice gA 0 gc, .int .i64 site]] W (OfPost W (.agg #[.int .i64 it, .int .i64 is, .int .i64 rt, .int .i64 rs, .string text, .int .i64 site])) from fun W => restOf_any ⟨⟨ds, dq⟩, deps, kind, ⟨it, is⟩, ⟨rt, rs⟩, text, [], site⟩ dA gA dc gc W)
  go_enter Tryz.func140, Tryz.ntmps140
  go_wp2_with (fail)
  refine (HI.out.cnt _).mono ?_
  unfold IntPost
  rintro e w1 ⟨rfl, hk⟩
  have HZ1 := Lib.hid (HZ.out.fresh hk)
  clear hk HZ
  go_wp2_with (fail)
  refine wp_region_class (l := _ :: _ :: _ :: _ :: _ :: _ :: _ :: _ :: _ :: _ :: _ :: _ :: _ :: _ :: _ :: _ :: _ :: _ :: _ :: _ :: _ :: _ :: _ :: _ :: _ :: _ :: _ :: _ :: _ :: _ :: _ :: _ :: _ :: _ :: _ :: _ :: _ :: _ :: _ :: _ :: _ :: _ :: _ :: _ :: _ :: _ :: _ :: _ :: _ :: _ :: _ :: _ :: _ :: _ :: _ :: _ :: _ :: _ :: _ :: _ :: _ :: _ :: _ :: _ :: _ :: _ :: _ :: _ :: _ :: _ :: _ :: _ :: []) (C := fun w' => IB w w.heap.size ds dq dA deps.length dc kind it is rt rs text gA 0 gc site w') (by kernel_rfl) (by kernel_rfl) HZ1.out.drew ?_
  repeat
    first | go_big_quiet_skip | (go_big_quiet_want; first | (go_big_quiet_op; go_big_quiet_on) | (apply Exists.intro; refine ⟨fun w' hS => ?_, ?_⟩; (have HJ := hS; obtain ⟨⟨i0, i1, i2, i3, i4⟩, c0, c1, c2, c3, c4, c5, c6, c7, c8, c9, c10⟩ := IB.S hS; go_simp; first | rfl | exact ⟨rfl, rfl⟩ | (go_at_call 144; (with_reducible refine (HR.out _).mono ?_); unfold OfPost; rintro e w2 ⟨rfl, hk⟩; exact ⟨rfl, IB.fresh HJ hk⟩) | (fail)); (try simp only [Act.put, List.setIfInBounds_toArray, List.set_cons_zero, List.set_cons_succ]); go_big_quiet_on))
  refine wpQuiet_nil ?_
  intro w3 hJ
  have HJ3 := Lib.hid hJ
  clear hJ
  go_wp2
  go_ret
  exact ⟨rfl, HJ3.out.k⟩
set_option maxRecDepth 100000 in
set_option maxHeartbeats 3200000 in
theorem ins_4 (ds dq kind it is rt rs site : Int) (deps : List Dt) (text : ByteArray) (dA gA : Option Addr) (dc gc : Nat) (n : Nat) (z e1t e1s e2t e2s : Int) (x2 x7 x8 x9 : Bool) (w : World)
    (HI : Hid (InsF it is rt rs text site x2 n z e1t e1s e2t e2s x7 x8 x9)) (h2 : x2 = true) (h3 : 0 < n) (h4 : 1024 < n) :
    Calls Tryz.prog 140 #[.agg #[.int .i64 it, .int .i64 is, .int .i64 rt, .int .i64 rs, .string text], .agg #[.int .i64 ds, .int .i64 dq, .slice dA deps.length dc, .int .i64 kind, .int .i64 it, .int .i64 is, .int .i64 rt, .int .i64 rs, .string text, .slice gA 0 gc, .int .i64 site]] w (BoolPost w false) := by
  have q2 := HI.out.q2
  rw [h2] at q2
  clear h2
  have h4' : decide ((n : Int) ≤ 1024) = false := decide_eq_false (by omega)
  have HZ := Lib.hid (show IB w w.heap.size ds dq dA deps.length dc kind it is rt rs text gA 0 gc site ((w.alloc (.cells #[.int .i64 it, .int .i64 is, .int .i64 rt, .int .i64 rs, .string text] 158)).alloc (.cells #[.int .i64 ds, .int .i64 dq, .slice dA deps.length dc, .int .i64 kind, .int .i64 it, .int .i64 is, .int .i64 rt, .int .i64 rs, .string text, .slice gA 0 gc, .int .i64 site] 64)) from ⟨(Box.new w 158 #[.int .i64 it, .int .i64 is, .int .i64 rt, .int .i64 rs, .string text]).alloc _, (Box.new (w.alloc (.cells #[.int .i64 it, .int .i64 is, .int .i64 rt, .int .i64 rs, .string text] 158)) 64 #[.int .i64 ds, .int .i64 dq, .slice dA deps.length dc, .int .i64 kind, .int .i64 it, .int .i64 is, .int .i64 rt, .int .i64 rs, .string text, .slice gA 0 gc, .int .i64 site]).at_eq (by simp), ((Kept.refl _ _).alloc _).alloc _⟩)
  have HR := Lib.hid (show ∀ W, Calls Tryz.prog 144 #[.agg #[.int .i64 ds, .int .i64 dq, .slice dA deps.length dc, .int .i64 kind, .int .i64 it, .int .i64 is, .int .i64 rt, .int .i64 rs, .string text, .slice gA 0 gc, .int .i64 site]] W (OfPost W (.agg #[.int .i64 it, .int .i64 is, .int .i64 rt, .int .i64 rs, .string text, .int .i64 site])) from fun W => restOf_any ⟨⟨ds, dq⟩, deps, kind, ⟨it, is⟩, ⟨rt, rs⟩, text, [], site⟩ dA gA dc gc W)
  go_enter Tryz.func140, Tryz.ntmps140
  go_wp2_with (fail)
  refine (HI.out.cnt _).mono ?_
  unfold IntPost
  rintro e w1 ⟨rfl, hk⟩
  have HZ1 := Lib.hid (HZ.out.fresh hk)
  clear hk HZ
  go_wp2_with (fail)
  refine wp_region_class (l := _ :: _ :: _ :: _ :: _ :: _ :: _ :: _ :: _ :: _ :: _ :: _ :: _ :: _ :: _ :: _ :: _ :: _ :: _ :: _ :: _ :: _ :: _ :: _ :: _ :: _ :: _ :: _ :: _ :: _ :: _ :: _ :: _ :: _ :: _ :: _ :: _ :: _ :: _ :: _ :: _ :: _ :: _ :: _ :: _ :: _ :: _ :: _ :: _ :: _ :: _ :: _ :: _ :: _ :: _ :: _ :: _ :: _ :: _ :: _ :: _ :: _ :: _ :: _ :: _ :: _ :: _ :: _ :: _ :: _ :: _ :: _ :: []) (C := fun w' => IB w w.heap.size ds dq dA deps.length dc kind it is rt rs text gA 0 gc site w') (by kernel_rfl) (by kernel_rfl) HZ1.out.drew ?_
  repeat
    first | go_big_quiet_skip | (go_big_quiet_want; first | (go_big_quiet_op; go_big_quiet_on) | (apply Exists.intro; refine ⟨fun w' hS => ?_, ?_⟩; (have HJ := hS; obtain ⟨⟨i0, i1, i2, i3, i4⟩, c0, c1, c2, c3, c4, c5, c6, c7, c8, c9, c10⟩ := IB.S hS; go_simp; first | rfl | exact ⟨rfl, rfl⟩ | (go_at_call 144; (with_reducible refine (HR.out _).mono ?_); unfold OfPost; rintro e w2 ⟨rfl, hk⟩; exact ⟨rfl, IB.fresh HJ hk⟩) | (fail)); (try simp only [Act.put, List.setIfInBounds_toArray, List.set_cons_zero, List.set_cons_succ]); go_big_quiet_on))
  refine wpQuiet_nil ?_
  intro w3 hJ
  have HJ3 := Lib.hid hJ
  clear hJ
  go_wp2
  go_ret
  exact ⟨rfl, HJ3.out.k⟩
set_option maxRecDepth 100000 in
set_option maxHeartbeats 3200000 in
theorem ins_5 (ds dq kind it is rt rs site : Int) (deps : List Dt) (text : ByteArray) (dA gA : Option Addr) (dc gc : Nat) (n : Nat) (z e1t e1s e2t e2s : Int) (x2 x7 x8 x9 : Bool) (w : World)
    (HI : Hid (InsF it is rt rs text site x2 n z e1t e1s e2t e2s x7 x8 x9)) (h2 : x2 = true) (h3 : 0 < n) (h4 : n ≤ 1024) (h5 : 0 ≤ z) :
    Calls Tryz.prog 140 #[.agg #[.int .i64 it, .int .i64 is, .int .i64 rt, .int .i64 rs, .string text], .agg #[.int .i64 ds, .int .i64 dq, .slice dA deps.length dc, .int .i64 kind, .int .i64 it, .int .i64 is, .int .i64 rt, .int .i64 rs, .string text, .slice gA 0 gc, .int .i64 site]] w (BoolPost w false) := by
  have q2 := HI.out.q2
  rw [h2] at q2
  clear h2
  have h4' : decide ((n : Int) ≤ 1024) = true := decide_eq_true (by omega)
  have h5' : decide (z < 0) = false := decide_eq_false (by omega)
  have HZ := Lib.hid (show IB w w.heap.size ds dq dA deps.length dc kind it is rt rs text gA 0 gc site ((w.alloc (.cells #[.int .i64 it, .int .i64 is, .int .i64 rt, .int .i64 rs, .string text] 158)).alloc (.cells #[.int .i64 ds, .int .i64 dq, .slice dA deps.length dc, .int .i64 kind, .int .i64 it, .int .i64 is, .int .i64 rt, .int .i64 rs, .string text, .slice gA 0 gc, .int .i64 site] 64)) from ⟨(Box.new w 158 #[.int .i64 it, .int .i64 is, .int .i64 rt, .int .i64 rs, .string text]).alloc _, (Box.new (w.alloc (.cells #[.int .i64 it, .int .i64 is, .int .i64 rt, .int .i64 rs, .string text] 158)) 64 #[.int .i64 ds, .int .i64 dq, .slice dA deps.length dc, .int .i64 kind, .int .i64 it, .int .i64 is, .int .i64 rt, .int .i64 rs, .string text, .slice gA 0 gc, .int .i64 site]).at_eq (by simp), ((Kept.refl _ _).alloc _).alloc _⟩)
  have HR := Lib.hid (show ∀ W, Calls Tryz.prog 144 #[.agg #[.int .i64 ds, .int .i64 dq, .slice dA deps.length dc, .int .i64 kind, .int .i64 it, .int .i64 is, .int .i64 rt, .int .i64 rs, .string text, .slice gA 0 gc, .int .i64 site]] W (OfPost W (.agg #[.int .i64 it, .int .i64 is, .int .i64 rt, .int .i64 rs, .string text, .int .i64 site])) from fun W => restOf_any ⟨⟨ds, dq⟩, deps, kind, ⟨it, is⟩, ⟨rt, rs⟩, text, [], site⟩ dA gA dc gc W)
  go_enter Tryz.func140, Tryz.ntmps140
  go_wp2_with (fail)
  refine (HI.out.cnt _).mono ?_
  unfold IntPost
  rintro e w1 ⟨rfl, hk⟩
  have HZ1 := Lib.hid (HZ.out.fresh hk)
  clear hk HZ
  go_wp2_with (fail)
  refine wp_region_class (l := _ :: _ :: _ :: _ :: _ :: _ :: _ :: _ :: _ :: _ :: _ :: _ :: _ :: _ :: _ :: _ :: _ :: _ :: _ :: _ :: _ :: _ :: _ :: _ :: _ :: _ :: _ :: _ :: _ :: _ :: _ :: _ :: _ :: _ :: _ :: _ :: _ :: _ :: _ :: _ :: _ :: _ :: _ :: _ :: _ :: _ :: _ :: _ :: _ :: _ :: _ :: _ :: _ :: _ :: _ :: _ :: _ :: _ :: _ :: _ :: _ :: _ :: _ :: _ :: _ :: _ :: _ :: _ :: _ :: _ :: _ :: _ :: []) (C := fun w' => IB w w.heap.size ds dq dA deps.length dc kind it is rt rs text gA 0 gc site w') (by kernel_rfl) (by kernel_rfl) HZ1.out.drew ?_
  repeat
    first | go_big_quiet_skip | (go_big_quiet_want; first | (go_big_quiet_op; go_big_quiet_on) | (apply Exists.intro; refine ⟨fun w' hS => ?_, ?_⟩; (have HJ := hS; obtain ⟨⟨i0, i1, i2, i3, i4⟩, c0, c1, c2, c3, c4, c5, c6, c7, c8, c9, c10⟩ := IB.S hS; go_simp; first | rfl | exact ⟨rfl, rfl⟩ | (go_at_call 144; (with_reducible refine (HR.out _).mono ?_); unfold OfPost; rintro e w2 ⟨rfl, hk⟩; exact ⟨rfl, IB.fresh HJ hk⟩) | (go_at_call 145; (with_reducible refine (HI.out.bad _).mono ?_); unfold IntPost; rintro e w2 ⟨rfl, hk⟩; exact ⟨rfl, IB.fresh HJ hk⟩) | (fail)); (try simp only [Act.put, List.setIfInBounds_toArray, List.set_cons_zero, List.set_cons_succ]); go_big_quiet_on))
  refine wpQuiet_nil ?_
  intro w3 hJ
  have HJ3 := Lib.hid hJ
  clear hJ
  go_wp2
  go_ret
  exact ⟨rfl, HJ3.out.k⟩
set_option maxRecDepth 100000 in
set_option maxHeartbeats 3200000 in
theorem ins_6 (ds dq kind it is rt rs site : Int) (deps : List Dt) (text : ByteArray) (dA gA : Option Addr) (dc gc : Nat) (n : Nat) (z e1t e1s e2t e2s : Int) (x2 x7 x8 x9 : Bool) (w : World)
    (HI : Hid (InsF it is rt rs text site x2 n z e1t e1s e2t e2s x7 x8 x9)) (h2 : x2 = true) (h3 : 0 < n) (h4 : n ≤ 1024) (h5 : z < 0) (h6 : (is == ds) = false) :
    Calls Tryz.prog 140 #[.agg #[.int .i64 it, .int .i64 is, .int .i64 rt, .int .i64 rs, .string text], .agg #[.int .i64 ds, .int .i64 dq, .slice dA deps.length dc, .int .i64 kind, .int .i64 it, .int .i64 is, .int .i64 rt, .int .i64 rs, .string text, .slice gA 0 gc, .int .i64 site]] w (BoolPost w false) := by
  have q2 := HI.out.q2
  rw [h2] at q2
  clear h2
  have h4' : decide ((n : Int) ≤ 1024) = true := decide_eq_true (by omega)
  have h5' : decide (z < 0) = true := decide_eq_true (by omega)
  have HZ := Lib.hid (show IB w w.heap.size ds dq dA deps.length dc kind it is rt rs text gA 0 gc site ((w.alloc (.cells #[.int .i64 it, .int .i64 is, .int .i64 rt, .int .i64 rs, .string text] 158)).alloc (.cells #[.int .i64 ds, .int .i64 dq, .slice dA deps.length dc, .int .i64 kind, .int .i64 it, .int .i64 is, .int .i64 rt, .int .i64 rs, .string text, .slice gA 0 gc, .int .i64 site] 64)) from ⟨(Box.new w 158 #[.int .i64 it, .int .i64 is, .int .i64 rt, .int .i64 rs, .string text]).alloc _, (Box.new (w.alloc (.cells #[.int .i64 it, .int .i64 is, .int .i64 rt, .int .i64 rs, .string text] 158)) 64 #[.int .i64 ds, .int .i64 dq, .slice dA deps.length dc, .int .i64 kind, .int .i64 it, .int .i64 is, .int .i64 rt, .int .i64 rs, .string text, .slice gA 0 gc, .int .i64 site]).at_eq (by simp), ((Kept.refl _ _).alloc _).alloc _⟩)
  have HR := Lib.hid (show ∀ W, Calls Tryz.prog 144 #[.agg #[.int .i64 ds, .int .i64 dq, .slice dA deps.length dc, .int .i64 kind, .int .i64 it, .int .i64 is, .int .i64 rt, .int .i64 rs, .string text, .slice gA 0 gc, .int .i64 site]] W (OfPost W (.agg #[.int .i64 it, .int .i64 is, .int .i64 rt, .int .i64 rs, .string text, .int .i64 site])) from fun W => restOf_any ⟨⟨ds, dq⟩, deps, kind, ⟨it, is⟩, ⟨rt, rs⟩, text, [], site⟩ dA gA dc gc W)
  go_enter Tryz.func140, Tryz.ntmps140
  go_wp2_with (fail)
  refine (HI.out.cnt _).mono ?_
  unfold IntPost
  rintro e w1 ⟨rfl, hk⟩
  have HZ1 := Lib.hid (HZ.out.fresh hk)
  clear hk HZ
  go_wp2_with (fail)
  refine wp_region_class (l := _ :: _ :: _ :: _ :: _ :: _ :: _ :: _ :: _ :: _ :: _ :: _ :: _ :: _ :: _ :: _ :: _ :: _ :: _ :: _ :: _ :: _ :: _ :: _ :: _ :: _ :: _ :: _ :: _ :: _ :: _ :: _ :: _ :: _ :: _ :: _ :: _ :: _ :: _ :: _ :: _ :: _ :: _ :: _ :: _ :: _ :: _ :: _ :: _ :: _ :: _ :: _ :: _ :: _ :: _ :: _ :: _ :: _ :: _ :: _ :: _ :: _ :: _ :: _ :: _ :: _ :: _ :: _ :: _ :: _ :: _ :: _ :: []) (C := fun w' => IB w w.heap.size ds dq dA deps.length dc kind it is rt rs text gA 0 gc site w') (by kernel_rfl) (by kernel_rfl) HZ1.out.drew ?_
  repeat
    first | go_big_quiet_skip | (go_big_quiet_want; first | (go_big_quiet_op; go_big_quiet_on) | (apply Exists.intro; refine ⟨fun w' hS => ?_, ?_⟩; (have HJ := hS; obtain ⟨⟨i0, i1, i2, i3, i4⟩, c0, c1, c2, c3, c4, c5, c6, c7, c8, c9, c10⟩ := IB.S hS; go_simp; first | rfl | exact ⟨rfl, rfl⟩ | (go_at_call 144; (with_reducible refine (HR.out _).mono ?_); unfold OfPost; rintro e w2 ⟨rfl, hk⟩; exact ⟨rfl, IB.fresh HJ hk⟩) | (go_at_call 145; (with_reducible refine (HI.out.bad _).mono ?_); unfold IntPost; rintro e w2 ⟨rfl, hk⟩; exact ⟨rfl, IB.fresh HJ hk⟩) | (fail)); (try simp only [Act.put, List.setIfInBounds_toArray, List.set_cons_zero, List.set_cons_succ]); go_big_quiet_on))
  refine wpQuiet_nil ?_
  intro w3 hJ
  have HJ3 := Lib.hid hJ
  clear hJ
  go_wp2
  go_ret
  exact ⟨rfl, HJ3.out.k⟩
end Go.Proofs.YtnajbkccaclkcaaGreat

namespace Go.Proofs.YtnajbkccaclkcaaGreat
open Go Go.RowKit
set_option maxRecDepth 100000 in
set_option maxHeartbeats 3200000 in
theorem ins_7 (ds dq kind it is rt rs site : Int) (deps : List Dt) (text : ByteArray) (dA gA : Option Addr) (dc gc : Nat) (n : Nat) (z e1t e1s e2t e2s : Int) (x2 x7 x8 x9 : Bool) (w : World)
    (HI : Hid (InsF it is rt rs text site x2 n z e1t e1s e2t e2s x7 x8 x9)) (hnn : n ≤ 1000000) (h2 : x2 = true) (h3 : 0 < n) (h4 : n ≤ 1024) (h5 : z < 0) (h6 : (is == ds) = true) (h7 : x7 = false) :
    Calls Tryz.prog 140 #[.agg #[.int .i64 it, .int .i64 is, .int .i64 rt, .int .i64 rs, .string text], .agg #[.int .i64 ds, .int .i64 dq, .slice dA deps.length dc, .int .i64 kind, .int .i64 it, .int .i64 is, .int .i64 rt, .int .i64 rs, .string text, .slice gA 0 gc, .int .i64 site]] w (BoolPost w false) := by
  have q2 := HI.out.q2
  rw [h2] at q2
  clear h2
  have q7 := HI.out.q7
  rw [h7] at q7
  clear h7
  have hwr : IntKind.i64.wrap ((n : Int) - 1) = (n : Int) - 1 := IntWalk.i64_in _ ⟨by omega, by omega⟩
  have h4' : decide ((n : Int) ≤ 1024) = true := decide_eq_true (by omega)
  have h5' : decide (z < 0) = true := decide_eq_true (by omega)
  have HZ := Lib.hid (show IB w w.heap.size ds dq dA deps.length dc kind it is rt rs text gA 0 gc site ((w.alloc (.cells #[.int .i64 it, .int .i64 is, .int .i64 rt, .int .i64 rs, .string text] 158)).alloc (.cells #[.int .i64 ds, .int .i64 dq, .slice dA deps.length dc, .int .i64 kind, .int .i64 it, .int .i64 is, .int .i64 rt, .int .i64 rs, .string text, .slice gA 0 gc, .int .i64 site] 64)) from ⟨(Box.new w 158 #[.int .i64 it, .int .i64 is, .int .i64 rt, .int .i64 rs, .string text]).alloc _, (Box.new (w.alloc (.cells #[.int .i64 it, .int .i64 is, .int .i64 rt, .int .i64 rs, .string text] 158)) 64 #[.int .i64 ds, .int .i64 dq, .slice dA deps.length dc, .int .i64 kind, .int .i64 it, .int .i64 is, .int .i64 rt, .int .i64 rs, .string text, .slice gA 0 gc, .int .i64 site]).at_eq (by simp), ((Kept.refl _ _).alloc _).alloc _⟩)
  have HR := Lib.hid (show ∀ W, Calls Tryz.prog 144 #[.agg #[.int .i64 ds, .int .i64 dq, .slice dA deps.length dc, .int .i64 kind, .int .i64 it, .int .i64 is, .int .i64 rt, .int .i64 rs, .string text, .slice gA 0 gc, .int .i64 site]] W (OfPost W (.agg #[.int .i64 it, .int .i64 is, .int .i64 rt, .int .i64 rs, .string text, .int .i64 site])) from fun W => restOf_any ⟨⟨ds, dq⟩, deps, kind, ⟨it, is⟩, ⟨rt, rs⟩, text, [], site⟩ dA gA dc gc W)
  go_enter Tryz.func140, Tryz.ntmps140
  go_wp2_with (fail)
  refine (HI.out.cnt _).mono ?_
  unfold IntPost
  rintro e w1 ⟨rfl, hk⟩
  have HZ1 := Lib.hid (HZ.out.fresh hk)
  clear hk HZ
  go_wp2_with (fail)
  refine wp_region_class (l := _ :: _ :: _ :: _ :: _ :: _ :: _ :: _ :: _ :: _ :: _ :: _ :: _ :: _ :: _ :: _ :: _ :: _ :: _ :: _ :: _ :: _ :: _ :: _ :: _ :: _ :: _ :: _ :: _ :: _ :: _ :: _ :: _ :: _ :: _ :: _ :: _ :: _ :: _ :: _ :: _ :: _ :: _ :: _ :: _ :: _ :: _ :: _ :: _ :: _ :: _ :: _ :: _ :: _ :: _ :: _ :: _ :: _ :: _ :: _ :: _ :: _ :: _ :: _ :: _ :: _ :: _ :: _ :: _ :: _ :: _ :: _ :: []) (C := fun w' => IB w w.heap.size ds dq dA deps.length dc kind it is rt rs text gA 0 gc site w') (by kernel_rfl) (by kernel_rfl) HZ1.out.drew ?_
  repeat
    first | go_big_quiet_skip | (go_big_quiet_want; first | (go_big_quiet_op; go_big_quiet_on) | (apply Exists.intro; refine ⟨fun w' hS => ?_, ?_⟩; (have HJ := hS; obtain ⟨⟨i0, i1, i2, i3, i4⟩, c0, c1, c2, c3, c4, c5, c6, c7, c8, c9, c10⟩ := IB.S hS; go_simp; first | rfl | exact ⟨rfl, rfl⟩ | (go_at_call 144; (with_reducible refine (HR.out _).mono ?_); unfold OfPost; rintro e w2 ⟨rfl, hk⟩; exact ⟨rfl, IB.fresh HJ hk⟩) | (go_at_call 145; (with_reducible refine (HI.out.bad _).mono ?_); unfold IntPost; rintro e w2 ⟨rfl, hk⟩; exact ⟨rfl, IB.fresh HJ hk⟩) | (go_at_call 104; (with_reducible refine (HI.out.a1 _).mono ?_); unfold OfPost; rintro e w2 ⟨rfl, hk⟩; exact ⟨rfl, IB.fresh HJ hk⟩) | (fail)); (try simp only [Act.put, List.setIfInBounds_toArray, List.set_cons_zero, List.set_cons_succ]); go_big_quiet_on))
  refine wpQuiet_nil ?_
  intro w3 hJ
  have HJ3 := Lib.hid hJ
  clear hJ
  go_wp2
  go_ret
  exact ⟨rfl, HJ3.out.k⟩
set_option maxRecDepth 100000 in
set_option maxHeartbeats 3200000 in
theorem ins_8 (ds dq kind it is rt rs site : Int) (deps : List Dt) (text : ByteArray) (dA gA : Option Addr) (dc gc : Nat) (n : Nat) (z e1t e1s e2t e2s : Int) (x2 x7 x8 x9 : Bool) (w : World)
    (HI : Hid (InsF it is rt rs text site x2 n z e1t e1s e2t e2s x7 x8 x9)) (hnn : n ≤ 1000000) (h2 : x2 = true) (h3 : 0 < n) (h4 : n ≤ 1024) (h5 : z < 0) (h6 : (is == ds) = true) (h7 : x7 = true) (h8 : x8 = false) (h9 : x9 = false) :
    Calls Tryz.prog 140 #[.agg #[.int .i64 it, .int .i64 is, .int .i64 rt, .int .i64 rs, .string text], .agg #[.int .i64 ds, .int .i64 dq, .slice dA deps.length dc, .int .i64 kind, .int .i64 it, .int .i64 is, .int .i64 rt, .int .i64 rs, .string text, .slice gA 0 gc, .int .i64 site]] w (BoolPost w false) := by
  have q2 := HI.out.q2
  rw [h2] at q2
  clear h2
  have q7 := HI.out.q7
  rw [h7] at q7
  clear h7
  have q8 := HI.out.q8
  rw [h8] at q8
  clear h8
  have q9 := HI.out.q9
  rw [h9] at q9
  clear h9
  have hwr : IntKind.i64.wrap ((n : Int) - 1) = (n : Int) - 1 := IntWalk.i64_in _ ⟨by omega, by omega⟩
  have h4' : decide ((n : Int) ≤ 1024) = true := decide_eq_true (by omega)
  have h5' : decide (z < 0) = true := decide_eq_true (by omega)
  have HZ := Lib.hid (show IB w w.heap.size ds dq dA deps.length dc kind it is rt rs text gA 0 gc site ((w.alloc (.cells #[.int .i64 it, .int .i64 is, .int .i64 rt, .int .i64 rs, .string text] 158)).alloc (.cells #[.int .i64 ds, .int .i64 dq, .slice dA deps.length dc, .int .i64 kind, .int .i64 it, .int .i64 is, .int .i64 rt, .int .i64 rs, .string text, .slice gA 0 gc, .int .i64 site] 64)) from ⟨(Box.new w 158 #[.int .i64 it, .int .i64 is, .int .i64 rt, .int .i64 rs, .string text]).alloc _, (Box.new (w.alloc (.cells #[.int .i64 it, .int .i64 is, .int .i64 rt, .int .i64 rs, .string text] 158)) 64 #[.int .i64 ds, .int .i64 dq, .slice dA deps.length dc, .int .i64 kind, .int .i64 it, .int .i64 is, .int .i64 rt, .int .i64 rs, .string text, .slice gA 0 gc, .int .i64 site]).at_eq (by simp), ((Kept.refl _ _).alloc _).alloc _⟩)
  have HR := Lib.hid (show ∀ W, Calls Tryz.prog 144 #[.agg #[.int .i64 ds, .int .i64 dq, .slice dA deps.length dc, .int .i64 kind, .int .i64 it, .int .i64 is, .int .i64 rt, .int .i64 rs, .string text, .slice gA 0 gc, .int .i64 site]] W (OfPost W (.agg #[.int .i64 it, .int .i64 is, .int .i64 rt, .int .i64 rs, .string text, .int .i64 site])) from fun W => restOf_any ⟨⟨ds, dq⟩, deps, kind, ⟨it, is⟩, ⟨rt, rs⟩, text, [], site⟩ dA gA dc gc W)
  go_enter Tryz.func140, Tryz.ntmps140
  go_wp2_with (fail)
  refine (HI.out.cnt _).mono ?_
  unfold IntPost
  rintro e w1 ⟨rfl, hk⟩
  have HZ1 := Lib.hid (HZ.out.fresh hk)
  clear hk HZ
  go_wp2_with (fail)
  refine wp_region_class (l := _ :: _ :: _ :: _ :: _ :: _ :: _ :: _ :: _ :: _ :: _ :: _ :: _ :: _ :: _ :: _ :: _ :: _ :: _ :: _ :: _ :: _ :: _ :: _ :: _ :: _ :: _ :: _ :: _ :: _ :: _ :: _ :: _ :: _ :: _ :: _ :: _ :: _ :: _ :: _ :: _ :: _ :: _ :: _ :: _ :: _ :: _ :: _ :: _ :: _ :: _ :: _ :: _ :: _ :: _ :: _ :: _ :: _ :: _ :: _ :: _ :: _ :: _ :: _ :: _ :: _ :: _ :: _ :: _ :: _ :: _ :: _ :: []) (C := fun w' => IB w w.heap.size ds dq dA deps.length dc kind it is rt rs text gA 0 gc site w') (by kernel_rfl) (by kernel_rfl) HZ1.out.drew ?_
  repeat
    first | go_big_quiet_skip | (go_big_quiet_want; first | (go_big_quiet_op; go_big_quiet_on) | (apply Exists.intro; refine ⟨fun w' hS => ?_, ?_⟩; (have HJ := hS; obtain ⟨⟨i0, i1, i2, i3, i4⟩, c0, c1, c2, c3, c4, c5, c6, c7, c8, c9, c10⟩ := IB.S hS; go_simp; first | rfl | exact ⟨rfl, rfl⟩ | (go_at_call 144; (with_reducible refine (HR.out _).mono ?_); unfold OfPost; rintro e w2 ⟨rfl, hk⟩; exact ⟨rfl, IB.fresh HJ hk⟩) | (go_at_call 145; (with_reducible refine (HI.out.bad _).mono ?_); unfold IntPost; rintro e w2 ⟨rfl, hk⟩; exact ⟨rfl, IB.fresh HJ hk⟩) | (go_at_call 104; (with_reducible refine (HI.out.a1 _).mono ?_); unfold OfPost; rintro e w2 ⟨rfl, hk⟩; exact ⟨rfl, IB.fresh HJ hk⟩) | (go_at_call 104; (with_reducible refine (HI.out.a2 _).mono ?_); unfold OfPost; rintro e w2 ⟨rfl, hk⟩; exact ⟨rfl, IB.fresh HJ hk⟩) | (fail)); (try simp only [Act.put, List.setIfInBounds_toArray, List.set_cons_zero, List.set_cons_succ]); go_big_quiet_on))
  refine wpQuiet_nil ?_
  intro w3 hJ
  have HJ3 := Lib.hid hJ
  clear hJ
  go_wp2
  go_ret
  exact ⟨rfl, HJ3.out.k⟩
end Go.Proofs.YtnajbkccaclkcaaGreat
