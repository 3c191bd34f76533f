/- The walk of op.Check. Conditions: the dots lie in memory as DotsAt says; what the kind's right says is a contract. -/
import Derived.Test.YtnfehkncfjgeeaaORight
import Derived.Test.YtnfehkncfjgeeaaORem
import Derived.Test.YtnfehkncfjgeeaaOOf
import Derived.Test.YtnfehkncfjgeeaaVCheck
namespace Go.Proofs.Ytnfehkncfjgeeaa
open Go Go.RowKit

/-- An operation in its box, its dots, ahead of whatever is done. -/
structure CB (w : World) (g : Nat) (dA : Option Addr) (deps : List Dt) (cs : Array Value) (W : World) : Prop where
  b : Box W g 45 cs
  d : DotsAt W dA deps
  k : Kept (fun _ => False) w W
theorem CB.fresh {w W W' : World} {g : Nat} {dA : Option Addr} {deps : List Dt} {cs : Array Value} (h : CB w g dA deps cs W) (hk : Kept (fun _ => False) W W') : CB w g dA deps cs W' := ⟨h.b.kept hk id, h.d.kept hk fun _ _ h => h, h.k.trans hk fun _ _ e => e⟩
theorem CB.drew {w W : World} {g : Nat} {dA : Option Addr} {deps : List Dt} {cs : Array Value} (h : CB w g dA deps cs W) : CB w g dA deps cs W.drew := h.fresh (Kept.refl (fun _ => False) W).drew
theorem CB.S {w W : World} {g : Nat} {ds dq kind it is rt rs site : Int} {deps : List Dt} {text : ByteArray} {dA gA : Option Addr} {dc gl gc : Nat} (h : CB w g dA deps #[.int .i64 ds, .int .i64 dq, .slice dA deps.length dc, .int .i64 kind, .int .i64 it, .int .i64 is, .int .i64 rt, .int .i64 rs, .string text, .slice gA gl gc, .int .i64 site] W) :
    W.cell? ⟨g, 0, none⟩ = some (.int .i64 ds) ∧ W.cell? ⟨g, 1, none⟩ = some (.int .i64 dq) ∧ W.cell? ⟨g, 2, none⟩ = some (.slice dA deps.length dc) ∧ W.cell? ⟨g, 3, none⟩ = some (.int .i64 kind) ∧ W.cell? ⟨g, 4, none⟩ = some (.int .i64 it) ∧ W.cell? ⟨g, 5, none⟩ = some (.int .i64 is) ∧
    W.cell? ⟨g, 6, none⟩ = some (.int .i64 rt) ∧ W.cell? ⟨g, 7, none⟩ = some (.int .i64 rs) ∧ W.cell? ⟨g, 8, none⟩ = some (.string text) ∧ W.cell? ⟨g, 9, none⟩ = some (.slice gA gl gc) ∧ W.cell? ⟨g, 10, none⟩ = some (.int .i64 site) :=
  ⟨h.b.cell 0, h.b.cell 1, h.b.cell 2, h.b.cell 3, h.b.cell 4, h.b.cell 5, h.b.cell 6, h.b.cell 7, h.b.cell 8, h.b.cell 9, h.b.cell 10⟩
set_option maxRecDepth 100000 in
set_option maxHeartbeats 1600000 in
theorem ochk_1 (ds dq kind it is rt rs site : Int) (deps : List Dt) (text : ByteArray) (dA gA : Option Addr) (dc gl gc : Nat) (w : World) (T : TypeId) (x : Value)
    (HOF : Hid (∀ W, Calls Try.prog 66 #[.agg #[.int .i64 ds, .int .i64 dq, .slice dA deps.length dc, .int .i64 kind, .int .i64 it, .int .i64 is, .int .i64 rt, .int .i64 rs, .string text, .slice gA gl gc, .int .i64 site]] W (OfPost W (.iface T x))))
    (hd : DotsAt w dA deps) (h1 : ds < 1) :
    Calls Try.prog 53 #[.agg #[.int .i64 ds, .int .i64 dq, .slice dA deps.length dc, .int .i64 kind, .int .i64 it, .int .i64 is, .int .i64 rt, .int .i64 rs, .string text, .slice gA gl gc, .int .i64 site]] w (IntPost w 10) := by
  have hnil : ∀ W : World, (binOp .eql 101 (.iface T x) .nilIface).run Try.prog W = .ok (.bool false) W := fun _ => rfl
  have HZ := Lib.hid (show CB w w.heap.size dA deps #[.int .i64 ds, .int .i64 dq, .slice dA deps.length dc, .int .i64 kind, .int .i64 it, .int .i64 is, .int .i64 rt, .int .i64 rs, .string text, .slice gA gl gc, .int .i64 site] (w.alloc (.cells #[.int .i64 ds, .int .i64 dq, .slice dA deps.length dc, .int .i64 kind, .int .i64 it, .int .i64 is, .int .i64 rt, .int .i64 rs, .string text, .slice gA gl gc, .int .i64 site] 45)) from ⟨Box.new w _ _, hd.kept ((Kept.refl (fun _ => False) w).alloc _) fun _ _ h => h, (Kept.refl _ _).alloc _⟩)
  clear hd
  go_enter Try.func53, Try.ntmps53
  go_wp2_with (fail)
  refine (HOF.out _).mono ?_
  unfold OfPost
  rintro e w1 ⟨rfl, hk⟩
  have HZ1 := Lib.hid (HZ.out.fresh hk)
  clear hk HZ
  obtain ⟨c0, c1, c2, c3, c4, c5, c6, c7, c8, c9, c10⟩ := HZ1.out.S
  go_wp2
  go_ret
  exact ⟨rfl, HZ1.out.k⟩
set_option maxRecDepth 100000 in
set_option maxHeartbeats 1600000 in
theorem ochk_2 (ds dq kind it is rt rs site : Int) (deps : List Dt) (text : ByteArray) (dA gA : Option Addr) (dc gl gc : Nat) (w : World) (T : TypeId) (x : Value)
    (HOF : Hid (∀ W, Calls Try.prog 66 #[.agg #[.int .i64 ds, .int .i64 dq, .slice dA deps.length dc, .int .i64 kind, .int .i64 it, .int .i64 is, .int .i64 rt, .int .i64 rs, .string text, .slice gA gl gc, .int .i64 site]] W (OfPost W (.iface T x))))
    (hd : DotsAt w dA deps) (_h1 : 1 ≤ ds) (h2 : 16 < ds) :
    Calls Try.prog 53 #[.agg #[.int .i64 ds, .int .i64 dq, .slice dA deps.length dc, .int .i64 kind, .int .i64 it, .int .i64 is, .int .i64 rt, .int .i64 rs, .string text, .slice gA gl gc, .int .i64 site]] w (IntPost w 10) := by
  have hnil : ∀ W : World, (binOp .eql 101 (.iface T x) .nilIface).run Try.prog W = .ok (.bool false) W := fun _ => rfl
  have HZ := Lib.hid (show CB w w.heap.size dA deps #[.int .i64 ds, .int .i64 dq, .slice dA deps.length dc, .int .i64 kind, .int .i64 it, .int .i64 is, .int .i64 rt, .int .i64 rs, .string text, .slice gA gl gc, .int .i64 site] (w.alloc (.cells #[.int .i64 ds, .int .i64 dq, .slice dA deps.length dc, .int .i64 kind, .int .i64 it, .int .i64 is, .int .i64 rt, .int .i64 rs, .string text, .slice gA gl gc, .int .i64 site] 45)) from ⟨Box.new w _ _, hd.kept ((Kept.refl (fun _ => False) w).alloc _) fun _ _ h => h, (Kept.refl _ _).alloc _⟩)
  clear hd
  go_enter Try.func53, Try.ntmps53
  go_wp2_with (fail)
  refine (HOF.out _).mono ?_
  unfold OfPost
  rintro e w1 ⟨rfl, hk⟩
  have HZ1 := Lib.hid (HZ.out.fresh hk)
  clear hk HZ
  obtain ⟨c0, c1, c2, c3, c4, c5, c6, c7, c8, c9, c10⟩ := HZ1.out.S
  go_wp2
  go_ret
  exact ⟨rfl, HZ1.out.k⟩
set_option maxRecDepth 100000 in
set_option maxHeartbeats 1600000 in
theorem ochk_3 (ds dq kind it is rt rs site : Int) (deps : List Dt) (text : ByteArray) (dA gA : Option Addr) (dc gl gc : Nat) (w : World) (T : TypeId) (x : Value)
    (HOF : Hid (∀ W, Calls Try.prog 66 #[.agg #[.int .i64 ds, .int .i64 dq, .slice dA deps.length dc, .int .i64 kind, .int .i64 it, .int .i64 is, .int .i64 rt, .int .i64 rs, .string text, .slice gA gl gc, .int .i64 site]] W (OfPost W (.iface T x))))
    (hd : DotsAt w dA deps) (h1 : 1 ≤ ds) (h2 : ds ≤ 16) (h3 : dq < 1) :
    Calls Try.prog 53 #[.agg #[.int .i64 ds, .int .i64 dq, .slice dA deps.length dc, .int .i64 kind, .int .i64 it, .int .i64 is, .int .i64 rt, .int .i64 rs, .string text, .slice gA gl gc, .int .i64 site]] w (IntPost w 10) := by
  have hnil : ∀ W : World, (binOp .eql 101 (.iface T x) .nilIface).run Try.prog W = .ok (.bool false) W := fun _ => rfl
  have HZ := Lib.hid (show CB w w.heap.size dA deps #[.int .i64 ds, .int .i64 dq, .slice dA deps.length dc, .int .i64 kind, .int .i64 it, .int .i64 is, .int .i64 rt, .int .i64 rs, .string text, .slice gA gl gc, .int .i64 site] (w.alloc (.cells #[.int .i64 ds, .int .i64 dq, .slice dA deps.length dc, .int .i64 kind, .int .i64 it, .int .i64 is, .int .i64 rt, .int .i64 rs, .string text, .slice gA gl gc, .int .i64 site] 45)) from ⟨Box.new w _ _, hd.kept ((Kept.refl (fun _ => False) w).alloc _) fun _ _ h => h, (Kept.refl _ _).alloc _⟩)
  clear hd
  go_enter Try.func53, Try.ntmps53
  go_wp2_with (fail)
  refine (HOF.out _).mono ?_
  unfold OfPost
  rintro e w1 ⟨rfl, hk⟩
  have HZ1 := Lib.hid (HZ.out.fresh hk)
  clear hk HZ
  obtain ⟨c0, c1, c2, c3, c4, c5, c6, c7, c8, c9, c10⟩ := HZ1.out.S
  go_wp2
  go_ret
  exact ⟨rfl, HZ1.out.k⟩
set_option maxRecDepth 100000 in
set_option maxHeartbeats 1600000 in
theorem ochk_4 (ds dq kind it is rt rs site : Int) (deps : List Dt) (text : ByteArray) (dA gA : Option Addr) (dc gl gc : Nat) (w : World) (T : TypeId) (x : Value)
    (HOF : Hid (∀ W, Calls Try.prog 66 #[.agg #[.int .i64 ds, .int .i64 dq, .slice dA deps.length dc, .int .i64 kind, .int .i64 it, .int .i64 is, .int .i64 rt, .int .i64 rs, .string text, .slice gA gl gc, .int .i64 site]] W (OfPost W (.iface T x))))
    (hd : DotsAt w dA deps) (h1 : 1 ≤ ds) (h2 : ds ≤ 16) (_h3 : 1 ≤ dq) (h4 : 2147483647 < dq) :
    Calls Try.prog 53 #[.agg #[.int .i64 ds, .int .i64 dq, .slice dA deps.length dc, .int .i64 kind, .int .i64 it, .int .i64 is, .int .i64 rt, .int .i64 rs, .string text, .slice gA gl gc, .int .i64 site]] w (IntPost w 10) := by
  have hnil : ∀ W : World, (binOp .eql 101 (.iface T x) .nilIface).run Try.prog W = .ok (.bool false) W := fun _ => rfl
  have HZ := Lib.hid (show CB w w.heap.size dA deps #[.int .i64 ds, .int .i64 dq, .slice dA deps.length dc, .int .i64 kind, .int .i64 it, .int .i64 is, .int .i64 rt, .int .i64 rs, .string text, .slice gA gl gc, .int .i64 site] (w.alloc (.cells #[.int .i64 ds, .int .i64 dq, .slice dA deps.length dc, .int .i64 kind, .int .i64 it, .int .i64 is, .int .i64 rt, .int .i64 rs, .string text, .slice gA gl gc, .int .i64 site] 45)) from ⟨Box.new w _ _, hd.kept ((Kept.refl (fun _ => False) w).alloc _) fun _ _ h => h, (Kept.refl _ _).alloc _⟩)
  clear hd
  go_enter Try.func53, Try.ntmps53
  go_wp2_with (fail)
  refine (HOF.out _).mono ?_
  unfold OfPost
  rintro e w1 ⟨rfl, hk⟩
  have HZ1 := Lib.hid (HZ.out.fresh hk)
  clear hk HZ
  obtain ⟨c0, c1, c2, c3, c4, c5, c6, c7, c8, c9, c10⟩ := HZ1.out.S
  go_wp2
  go_ret
  exact ⟨rfl, HZ1.out.k⟩
set_option maxRecDepth 100000 in
set_option maxHeartbeats 1600000 in
theorem ochk_5 (ds dq kind it is rt rs site : Int) (deps : List Dt) (text : ByteArray) (dA gA : Option Addr) (dc gl gc : Nat) (w : World) (T : TypeId) (x : Value)
    (HOF : Hid (∀ W, Calls Try.prog 66 #[.agg #[.int .i64 ds, .int .i64 dq, .slice dA deps.length dc, .int .i64 kind, .int .i64 it, .int .i64 is, .int .i64 rt, .int .i64 rs, .string text, .slice gA gl gc, .int .i64 site]] W (OfPost W (.iface T x))))
    (hd : DotsAt w dA deps) (hl : deps.length ≤ 4611686018427387904) (h1 : 1 ≤ ds) (h2 : ds ≤ 16) (h3 : 1 ≤ dq) (h4 : dq ≤ 2147483647) (h5 : checkV deps ≠ 0) :
    Calls Try.prog 53 #[.agg #[.int .i64 ds, .int .i64 dq, .slice dA deps.length dc, .int .i64 kind, .int .i64 it, .int .i64 is, .int .i64 rt, .int .i64 rs, .string text, .slice gA gl gc, .int .i64 site]] w (IntPost w 10) := by
  have hnil : ∀ W : World, (binOp .eql 101 (.iface T x) .nilIface).run Try.prog W = .ok (.bool false) W := fun _ => rfl
  have HZ := Lib.hid (show CB w w.heap.size dA deps #[.int .i64 ds, .int .i64 dq, .slice dA deps.length dc, .int .i64 kind, .int .i64 it, .int .i64 is, .int .i64 rt, .int .i64 rs, .string text, .slice gA gl gc, .int .i64 site] (w.alloc (.cells #[.int .i64 ds, .int .i64 dq, .slice dA deps.length dc, .int .i64 kind, .int .i64 it, .int .i64 is, .int .i64 rt, .int .i64 rs, .string text, .slice gA gl gc, .int .i64 site] 45)) from ⟨Box.new w _ _, hd.kept ((Kept.refl (fun _ => False) w).alloc _) fun _ _ h => h, (Kept.refl _ _).alloc _⟩)
  clear hd
  obtain ⟨z5, hz5⟩ : ∃ z, checkV deps = z := ⟨_, rfl⟩
  have HC := Lib.hid (fun (W : World) (h : DotsAt W dA deps) => Check_any dA deps dc W h hl)
  rw [hz5] at HC h5
  clear hz5
  have h5' : decide (z5 = 0) = false := decide_eq_false h5
  have h5'' : (z5 == 0) = false := beq_eq_false_iff_ne.mpr h5
  clear hl
  go_enter Try.func53, Try.ntmps53
  go_wp2_with (fail)
  refine (HOF.out _).mono ?_
  unfold OfPost
  rintro e w1 ⟨rfl, hk⟩
  have HZ1 := Lib.hid (HZ.out.fresh hk)
  clear hk HZ
  obtain ⟨c0, c1, c2, c3, c4, c5, c6, c7, c8, c9, c10⟩ := HZ1.out.S
  go_wp2_with (fail)
  refine (HC.out _ HZ1.out.d).mono ?_
  unfold IntPost
  rintro e w2 ⟨rfl, hk⟩
  have HZ2 := Lib.hid (HZ1.out.fresh hk)
  clear hk HZ1 c0 c1 c2 c3 c4 c5 c6 c7 c8 c9 c10
  obtain ⟨c0, c1, c2, c3, c4, c5, c6, c7, c8, c9, c10⟩ := HZ2.out.S
  go_wp2
  go_ret
  exact ⟨rfl, HZ2.out.k⟩
set_option maxRecDepth 100000 in
set_option maxHeartbeats 1600000 in
theorem ochk_6 (ds dq kind it is rt rs site : Int) (deps : List Dt) (text : ByteArray) (dA gA : Option Addr) (dc gl gc : Nat) (w : World) (T : TypeId) (x : Value)
    (HOF : Hid (∀ W, Calls Try.prog 66 #[.agg #[.int .i64 ds, .int .i64 dq, .slice dA deps.length dc, .int .i64 kind, .int .i64 it, .int .i64 is, .int .i64 rt, .int .i64 rs, .string text, .slice gA gl gc, .int .i64 site]] W (OfPost W (.iface T x))))
    (hd : DotsAt w dA deps) (hl : deps.length ≤ 4611686018427387904) (h1 : 1 ≤ ds) (h2 : ds ≤ 16) (h3 : 1 ≤ dq) (h4 : dq ≤ 2147483647) (h5 : checkV deps = 0) (h6 : getV deps ds ≠ dq - 1) :
    Calls Try.prog 53 #[.agg #[.int .i64 ds, .int .i64 dq, .slice dA deps.length dc, .int .i64 kind, .int .i64 it, .int .i64 is, .int .i64 rt, .int .i64 rs, .string text, .slice gA gl gc, .int .i64 site]] w (IntPost w 10) := by
  have hnil : ∀ W : World, (binOp .eql 101 (.iface T x) .nilIface).run Try.prog W = .ok (.bool false) W := fun _ => rfl
  have HZ := Lib.hid (show CB w w.heap.size dA deps #[.int .i64 ds, .int .i64 dq, .slice dA deps.length dc, .int .i64 kind, .int .i64 it, .int .i64 is, .int .i64 rt, .int .i64 rs, .string text, .slice gA gl gc, .int .i64 site] (w.alloc (.cells #[.int .i64 ds, .int .i64 dq, .slice dA deps.length dc, .int .i64 kind, .int .i64 it, .int .i64 is, .int .i64 rt, .int .i64 rs, .string text, .slice gA gl gc, .int .i64 site] 45)) from ⟨Box.new w _ _, hd.kept ((Kept.refl (fun _ => False) w).alloc _) fun _ _ h => h, (Kept.refl _ _).alloc _⟩)
  clear hd
  obtain ⟨z5, hz5⟩ : ∃ z, checkV deps = z := ⟨_, rfl⟩
  have HC := Lib.hid (fun (W : World) (h : DotsAt W dA deps) => Check_any dA deps dc W h hl)
  rw [hz5] at HC h5
  clear hz5
  subst h5
  obtain ⟨z6, hz6⟩ : ∃ z, getV deps ds = z := ⟨_, rfl⟩
  have HG := Lib.hid (fun (W : World) (h : DotsAt W dA deps) => Get_any dA deps dc ds W h hl)
  rw [hz6] at HG h6
  clear hz6
  have h6' : (z6 == dq - 1) = false := beq_eq_false_iff_ne.mpr h6
  have hwr : IntKind.i64.wrap (dq - 1) = dq - 1 := IntWalk.i64_in _ ⟨by omega, by omega⟩
  clear hl
  go_enter Try.func53, Try.ntmps53
  go_wp2_with (fail)
  refine (HOF.out _).mono ?_
  unfold OfPost
  rintro e w1 ⟨rfl, hk⟩
  have HZ1 := Lib.hid (HZ.out.fresh hk)
  clear hk HZ
  obtain ⟨c0, c1, c2, c3, c4, c5, c6, c7, c8, c9, c10⟩ := HZ1.out.S
  go_wp2_with (fail)
  refine (HC.out _ HZ1.out.d).mono ?_
  unfold IntPost
  rintro e w2 ⟨rfl, hk⟩
  have HZ2 := Lib.hid (HZ1.out.fresh hk)
  clear hk HZ1 c0 c1 c2 c3 c4 c5 c6 c7 c8 c9 c10
  obtain ⟨c0, c1, c2, c3, c4, c5, c6, c7, c8, c9, c10⟩ := HZ2.out.S
  go_wp2_with (fail)
  refine wp_region_class (C := fun w' => CB w w.heap.size dA deps #[.int .i64 ds, .int .i64 dq, .slice dA deps.length dc, .int .i64 kind, .int .i64 it, .int .i64 is, .int .i64 rt, .int .i64 rs, .string text, .slice gA gl gc, .int .i64 site] w') (by kernel_rfl) (by kernel_rfl) HZ2.out.drew ?_
  repeat
    first | go_big_quiet_skip | (go_big_quiet_want; first | (go_big_quiet_op; go_big_quiet_on) | (apply Exists.intro; refine ⟨fun w' hS => ?_, ?_⟩; (have HJ := hS; obtain ⟨d0, d1, d2, d3, d4, d5, d6, d7, d8, d9, d10⟩ := CB.S hS; go_simp; first | rfl | exact ⟨rfl, rfl⟩ | ((with_reducible refine (HG.out _ HJ.d).mono ?_); unfold IntPost; rintro e w2 ⟨rfl, hk⟩; exact ⟨rfl, CB.fresh HJ hk⟩)); (try simp only [Act.put, List.setIfInBounds_toArray, List.set_cons_zero, List.set_cons_succ]); go_big_quiet_on))
  refine wpQuiet_nil ?_
  intro w3 hJ
  have HZ3 := Lib.hid hJ
  clear hJ HZ2 c0 c1 c2 c3 c4 c5 c6 c7 c8 c9 c10
  obtain ⟨c0, c1, c2, c3, c4, c5, c6, c7, c8, c9, c10⟩ := HZ3.out.S
  go_wp2
  go_ret
  exact ⟨rfl, HZ3.out.k⟩
set_option maxRecDepth 100000 in
set_option maxHeartbeats 1600000 in
theorem ochk_7 (ds dq kind it is rt rs site : Int) (deps : List Dt) (text : ByteArray) (dA gA : Option Addr) (dc gl gc : Nat) (w : World) (T : TypeId) (x : Value) (K : Nat) (r : Value) (b : Bool)
    (HOF : Hid (∀ W, Calls Try.prog 66 #[.agg #[.int .i64 ds, .int .i64 dq, .slice dA deps.length dc, .int .i64 kind, .int .i64 it, .int .i64 is, .int .i64 rt, .int .i64 rs, .string text, .slice gA gl gc, .int .i64 site]] W (OfPost W (.iface T x))))
    (hm : ∀ W : World, (method 263 T x "hearsay/op.right").run Try.prog W = .ok (K, r) W) (hcf : ∀ (W : World) (a : Array Value), (callFunc K a).run Try.prog W = .ok (.enter K a) W)
    (HR : Hid (∀ W, Kept (fun _ => False) w W → Calls Try.prog K #[r, .agg #[.int .i64 ds, .int .i64 dq, .slice dA deps.length dc, .int .i64 kind, .int .i64 it, .int .i64 is, .int .i64 rt, .int .i64 rs, .string text, .slice gA gl gc, .int .i64 site]] W (BoolPost W b)))
    (hd : DotsAt w dA deps) (hl : deps.length ≤ 4611686018427387904) (h1 : 1 ≤ ds) (h2 : ds ≤ 16) (h3 : 1 ≤ dq) (h4 : dq ≤ 2147483647) (h5 : checkV deps = 0) (h6 : getV deps ds = dq - 1) (h7 : b = false) :
    Calls Try.prog 53 #[.agg #[.int .i64 ds, .int .i64 dq, .slice dA deps.length dc, .int .i64 kind, .int .i64 it, .int .i64 is, .int .i64 rt, .int .i64 rs, .string text, .slice gA gl gc, .int .i64 site]] w (IntPost w 10) := by
  have hnil : ∀ W : World, (binOp .eql 101 (.iface T x) .nilIface).run Try.prog W = .ok (.bool false) W := fun _ => rfl
  have HZ := Lib.hid (show CB w w.heap.size dA deps #[.int .i64 ds, .int .i64 dq, .slice dA deps.length dc, .int .i64 kind, .int .i64 it, .int .i64 is, .int .i64 rt, .int .i64 rs, .string text, .slice gA gl gc, .int .i64 site] (w.alloc (.cells #[.int .i64 ds, .int .i64 dq, .slice dA deps.length dc, .int .i64 kind, .int .i64 it, .int .i64 is, .int .i64 rt, .int .i64 rs, .string text, .slice gA gl gc, .int .i64 site] 45)) from ⟨Box.new w _ _, hd.kept ((Kept.refl (fun _ => False) w).alloc _) fun _ _ h => h, (Kept.refl _ _).alloc _⟩)
  clear hd
  obtain ⟨z5, hz5⟩ : ∃ z, checkV deps = z := ⟨_, rfl⟩
  have HC := Lib.hid (fun (W : World) (h : DotsAt W dA deps) => Check_any dA deps dc W h hl)
  rw [hz5] at HC h5
  clear hz5
  subst h5
  obtain ⟨z6, hz6⟩ : ∃ z, getV deps ds = z := ⟨_, rfl⟩
  have HG := Lib.hid (fun (W : World) (h : DotsAt W dA deps) => Get_any dA deps dc ds W h hl)
  rw [hz6] at HG h6
  clear hz6
  subst h6
  subst h7
  have hwr : IntKind.i64.wrap (dq - 1) = dq - 1 := IntWalk.i64_in _ ⟨by omega, by omega⟩
  clear hl
  go_enter Try.func53, Try.ntmps53
  go_wp2_with (fail)
  refine (HOF.out _).mono ?_
  unfold OfPost
  rintro e w1 ⟨rfl, hk⟩
  have HZ1 := Lib.hid (HZ.out.fresh hk)
  clear hk HZ
  obtain ⟨c0, c1, c2, c3, c4, c5, c6, c7, c8, c9, c10⟩ := HZ1.out.S
  go_wp2_with (fail)
  refine (HC.out _ HZ1.out.d).mono ?_
  unfold IntPost
  rintro e w2 ⟨rfl, hk⟩
  have HZ2 := Lib.hid (HZ1.out.fresh hk)
  clear hk HZ1 c0 c1 c2 c3 c4 c5 c6 c7 c8 c9 c10
  obtain ⟨c0, c1, c2, c3, c4, c5, c6, c7, c8, c9, c10⟩ := HZ2.out.S
  go_wp2_with (fail)
  refine wp_region_class (C := fun w' => CB w w.heap.size dA deps #[.int .i64 ds, .int .i64 dq, .slice dA deps.length dc, .int .i64 kind, .int .i64 it, .int .i64 is, .int .i64 rt, .int .i64 rs, .string text, .slice gA gl gc, .int .i64 site] w') (by kernel_rfl) (by kernel_rfl) HZ2.out.drew ?_
  repeat
    first | go_big_quiet_skip | (go_big_quiet_want; first | (go_big_quiet_op; go_big_quiet_on) | (apply Exists.intro; refine ⟨fun w' hS => ?_, ?_⟩; (have HJ := hS; obtain ⟨d0, d1, d2, d3, d4, d5, d6, d7, d8, d9, d10⟩ := CB.S hS; go_simp; first | rfl | exact ⟨rfl, rfl⟩ | ((with_reducible refine (HG.out _ HJ.d).mono ?_); unfold IntPost; rintro e w2 ⟨rfl, hk⟩; exact ⟨rfl, CB.fresh HJ hk⟩)); (try simp only [Act.put, List.setIfInBounds_toArray, List.set_cons_zero, List.set_cons_succ]); go_big_quiet_on))
  refine wpQuiet_nil ?_
  intro w3 hJ
  have HZ3 := Lib.hid hJ
  clear hJ HZ2 c0 c1 c2 c3 c4 c5 c6 c7 c8 c9 c10
  obtain ⟨c0, c1, c2, c3, c4, c5, c6, c7, c8, c9, c10⟩ := HZ3.out.S
  go_wp2_with (fail)
  refine (HR.out _ HZ3.out.k).mono ?_
  unfold BoolPost
  rintro e w4 ⟨rfl, hk⟩
  have HZ4 := Lib.hid (HZ3.out.fresh hk)
  clear hk HZ3 c0 c1 c2 c3 c4 c5 c6 c7 c8 c9 c10
  obtain ⟨c0, c1, c2, c3, c4, c5, c6, c7, c8, c9, c10⟩ := HZ4.out.S
  go_wp2
  go_ret
  exact ⟨rfl, HZ4.out.k⟩
set_option maxRecDepth 100000 in
set_option maxHeartbeats 1600000 in
theorem ochk_8 (ds dq kind it is rt rs site : Int) (deps : List Dt) (text : ByteArray) (dA gA : Option Addr) (dc gl gc : Nat) (w : World) (T : TypeId) (x : Value) (K : Nat) (r : Value) (b : Bool)
    (HOF : Hid (∀ W, Calls Try.prog 66 #[.agg #[.int .i64 ds, .int .i64 dq, .slice dA deps.length dc, .int .i64 kind, .int .i64 it, .int .i64 is, .int .i64 rt, .int .i64 rs, .string text, .slice gA gl gc, .int .i64 site]] W (OfPost W (.iface T x))))
    (hm : ∀ W : World, (method 263 T x "hearsay/op.right").run Try.prog W = .ok (K, r) W) (hcf : ∀ (W : World) (a : Array Value), (callFunc K a).run Try.prog W = .ok (.enter K a) W)
    (HR : Hid (∀ W, Kept (fun _ => False) w W → Calls Try.prog K #[r, .agg #[.int .i64 ds, .int .i64 dq, .slice dA deps.length dc, .int .i64 kind, .int .i64 it, .int .i64 is, .int .i64 rt, .int .i64 rs, .string text, .slice gA gl gc, .int .i64 site]] W (BoolPost W b)))
    (hd : DotsAt w dA deps) (hl : deps.length ≤ 4611686018427387904) (h1 : 1 ≤ ds) (h2 : ds ≤ 16) (h3 : 1 ≤ dq) (h4 : dq ≤ 2147483647) (h5 : checkV deps = 0) (h6 : getV deps ds = dq - 1) (h7 : b = true) :
    Calls Try.prog 53 #[.agg #[.int .i64 ds, .int .i64 dq, .slice dA deps.length dc, .int .i64 kind, .int .i64 it, .int .i64 is, .int .i64 rt, .int .i64 rs, .string text, .slice gA gl gc, .int .i64 site]] w (IntPost w 0) := by
  have hnil : ∀ W : World, (binOp .eql 101 (.iface T x) .nilIface).run Try.prog W = .ok (.bool false) W := fun _ => rfl
  have HZ := Lib.hid (show CB w w.heap.size dA deps #[.int .i64 ds, .int .i64 dq, .slice dA deps.length dc, .int .i64 kind, .int .i64 it, .int .i64 is, .int .i64 rt, .int .i64 rs, .string text, .slice gA gl gc, .int .i64 site] (w.alloc (.cells #[.int .i64 ds, .int .i64 dq, .slice dA deps.length dc, .int .i64 kind, .int .i64 it, .int .i64 is, .int .i64 rt, .int .i64 rs, .string text, .slice gA gl gc, .int .i64 site] 45)) from ⟨Box.new w _ _, hd.kept ((Kept.refl (fun _ => False) w).alloc _) fun _ _ h => h, (Kept.refl _ _).alloc _⟩)
  clear hd
  obtain ⟨z5, hz5⟩ : ∃ z, checkV deps = z := ⟨_, rfl⟩
  have HC := Lib.hid (fun (W : World) (h : DotsAt W dA deps) => Check_any dA deps dc W h hl)
  rw [hz5] at HC h5
  clear hz5
  subst h5
  obtain ⟨z6, hz6⟩ : ∃ z, getV deps ds = z := ⟨_, rfl⟩
  have HG := Lib.hid (fun (W : World) (h : DotsAt W dA deps) => Get_any dA deps dc ds W h hl)
  rw [hz6] at HG h6
  clear hz6
  subst h6
  subst h7
  have hwr : IntKind.i64.wrap (dq - 1) = dq - 1 := IntWalk.i64_in _ ⟨by omega, by omega⟩
  clear hl
  go_enter Try.func53, Try.ntmps53
  go_wp2_with (fail)
  refine (HOF.out _).mono ?_
  unfold OfPost
  rintro e w1 ⟨rfl, hk⟩
  have HZ1 := Lib.hid (HZ.out.fresh hk)
  clear hk HZ
  obtain ⟨c0, c1, c2, c3, c4, c5, c6, c7, c8, c9, c10⟩ := HZ1.out.S
  go_wp2_with (fail)
  refine (HC.out _ HZ1.out.d).mono ?_
  unfold IntPost
  rintro e w2 ⟨rfl, hk⟩
  have HZ2 := Lib.hid (HZ1.out.fresh hk)
  clear hk HZ1 c0 c1 c2 c3 c4 c5 c6 c7 c8 c9 c10
  obtain ⟨c0, c1, c2, c3, c4, c5, c6, c7, c8, c9, c10⟩ := HZ2.out.S
  go_wp2_with (fail)
  refine wp_region_class (C := fun w' => CB w w.heap.size dA deps #[.int .i64 ds, .int .i64 dq, .slice dA deps.length dc, .int .i64 kind, .int .i64 it, .int .i64 is, .int .i64 rt, .int .i64 rs, .string text, .slice gA gl gc, .int .i64 site] w') (by kernel_rfl) (by kernel_rfl) HZ2.out.drew ?_
  repeat
    first | go_big_quiet_skip | (go_big_quiet_want; first | (go_big_quiet_op; go_big_quiet_on) | (apply Exists.intro; refine ⟨fun w' hS => ?_, ?_⟩; (have HJ := hS; obtain ⟨d0, d1, d2, d3, d4, d5, d6, d7, d8, d9, d10⟩ := CB.S hS; go_simp; first | rfl | exact ⟨rfl, rfl⟩ | ((with_reducible refine (HG.out _ HJ.d).mono ?_); unfold IntPost; rintro e w2 ⟨rfl, hk⟩; exact ⟨rfl, CB.fresh HJ hk⟩)); (try simp only [Act.put, List.setIfInBounds_toArray, List.set_cons_zero, List.set_cons_succ]); go_big_quiet_on))
  refine wpQuiet_nil ?_
  intro w3 hJ
  have HZ3 := Lib.hid hJ
  clear hJ HZ2 c0 c1 c2 c3 c4 c5 c6 c7 c8 c9 c10
  obtain ⟨c0, c1, c2, c3, c4, c5, c6, c7, c8, c9, c10⟩ := HZ3.out.S
  go_wp2_with (fail)
  refine (HR.out _ HZ3.out.k).mono ?_
  unfold BoolPost
  rintro e w4 ⟨rfl, hk⟩
  have HZ4 := Lib.hid (HZ3.out.fresh hk)
  clear hk HZ3 c0 c1 c2 c3 c4 c5 c6 c7 c8 c9 c10
  obtain ⟨c0, c1, c2, c3, c4, c5, c6, c7, c8, c9, c10⟩ := HZ4.out.S
  go_wp2
  go_ret
  exact ⟨rfl, HZ4.out.k⟩
end Go.Proofs.Ytnfehkncfjgeeaa
