/- The walk of insert.right: paths ins_9 ins_10. · The walk of insert.right: paths ins_11 ins_12. -/
import Derived.Test.YtnlklhlnnoihiaaMO23
namespace Go.Proofs.Ytnlklhlnnoihiaa
open Go Go.RowKit
set_option maxRecDepth 100000 in
set_option maxHeartbeats 3200000 in
theorem ins_9 (ds dq kind it is rt rs site : Int) (deps : List Dt) (text : ByteArray) (dA gA : Option Addr) (dc gc : Nat) (n : Nat) (z e1t e1s e2t e2s : Int) (x2 x7 x8 x9 : Bool) (w : World)
    (HI : Hid (InsF it is rt rs text site x2 n z e1t e1s e2t e2s x7 x8 x9)) (hnn : n ≤ 1000000) (h2 : x2 = true) (h3 : 0 < n) (h4 : n ≤ 1024) (h5 : z < 0) (h6 : (is == ds) = true) (h7 : x7 = true) (h8 : x8 = true) (h10 : it ≤ rt) :
    Calls Try.prog 100 #[.agg #[.int .i64 it, .int .i64 is, .int .i64 rt, .int .i64 rs, .string text], .agg #[.int .i64 ds, .int .i64 dq, .slice dA deps.length dc, .int .i64 kind, .int .i64 it, .int .i64 is, .int .i64 rt, .int .i64 rs, .string text, .slice gA 0 gc, .int .i64 site]] w (BoolPost w false) := by
  have q2 := HI.out.q2
  rw [h2] at q2
  clear h2
  have q7 := HI.out.q7
  rw [h7] at q7
  clear h7
  have q8 := HI.out.q8
  rw [h8] at q8
  clear h8
  have hwr : IntKind.i64.wrap ((n : Int) - 1) = (n : Int) - 1 := IntWalk.i64_in _ ⟨by omega, by omega⟩
  have h4' : decide ((n : Int) ≤ 1024) = true := decide_eq_true (by omega)
  have h5' : decide (z < 0) = true := decide_eq_true (by omega)
  have h10' : decide (rt < it) = false := decide_eq_false (by omega)
  have HZ := Lib.hid (show IB w w.heap.size ds dq dA deps.length dc kind it is rt rs text gA 0 gc site ((w.alloc (.cells #[.int .i64 it, .int .i64 is, .int .i64 rt, .int .i64 rs, .string text] 114)).alloc (.cells #[.int .i64 ds, .int .i64 dq, .slice dA deps.length dc, .int .i64 kind, .int .i64 it, .int .i64 is, .int .i64 rt, .int .i64 rs, .string text, .slice gA 0 gc, .int .i64 site] 30)) from ⟨(Box.new w 114 #[.int .i64 it, .int .i64 is, .int .i64 rt, .int .i64 rs, .string text]).alloc _, (Box.new (w.alloc (.cells #[.int .i64 it, .int .i64 is, .int .i64 rt, .int .i64 rs, .string text] 114)) 30 #[.int .i64 ds, .int .i64 dq, .slice dA deps.length dc, .int .i64 kind, .int .i64 it, .int .i64 is, .int .i64 rt, .int .i64 rs, .string text, .slice gA 0 gc, .int .i64 site]).at_eq (by simp), ((Kept.refl _ _).alloc _).alloc _⟩)
  have HR := Lib.hid (show ∀ W, Calls Try.prog 103 #[.agg #[.int .i64 ds, .int .i64 dq, .slice dA deps.length dc, .int .i64 kind, .int .i64 it, .int .i64 is, .int .i64 rt, .int .i64 rs, .string text, .slice gA 0 gc, .int .i64 site]] W (OfPost W (.agg #[.int .i64 it, .int .i64 is, .int .i64 rt, .int .i64 rs, .string text, .int .i64 site])) from fun W => restOf_any ⟨⟨ds, dq⟩, deps, kind, ⟨it, is⟩, ⟨rt, rs⟩, text, [], site⟩ dA gA dc gc W)
  go_enter Try.func100, Try.ntmps100
  go_wp2_with (fail)
  refine (HI.out.cnt _).mono ?_
  unfold IntPost
  rintro e w1 ⟨rfl, hk⟩
  have HZ1 := Lib.hid (HZ.out.fresh hk)
  clear hk HZ
  go_wp2_with (fail)
  refine wp_region_class (l := _ :: _ :: _ :: _ :: _ :: _ :: _ :: _ :: _ :: _ :: _ :: _ :: _ :: _ :: _ :: _ :: _ :: _ :: _ :: _ :: _ :: _ :: _ :: _ :: _ :: _ :: _ :: _ :: _ :: _ :: _ :: _ :: _ :: _ :: _ :: _ :: _ :: _ :: _ :: _ :: _ :: _ :: _ :: _ :: _ :: _ :: _ :: _ :: _ :: _ :: _ :: _ :: _ :: _ :: _ :: _ :: _ :: _ :: _ :: _ :: _ :: _ :: _ :: _ :: _ :: _ :: _ :: _ :: _ :: _ :: _ :: _ :: []) (C := fun w' => IB w w.heap.size ds dq dA deps.length dc kind it is rt rs text gA 0 gc site w') (by kernel_rfl) (by kernel_rfl) HZ1.out.drew ?_
  repeat
    first | go_big_quiet_skip | (go_big_quiet_want; first | (go_big_quiet_op; go_big_quiet_on) | (apply Exists.intro; refine ⟨fun w' hS => ?_, ?_⟩; (have HJ := hS; obtain ⟨⟨i0, i1, i2, i3, i4⟩, c0, c1, c2, c3, c4, c5, c6, c7, c8, c9, c10⟩ := IB.S hS; go_simp; first | rfl | exact ⟨rfl, rfl⟩ | (go_at_call 103; (with_reducible refine (HR.out _).mono ?_); unfold OfPost; rintro e w2 ⟨rfl, hk⟩; exact ⟨rfl, IB.fresh HJ hk⟩) | (go_at_call 104; (with_reducible refine (HI.out.bad _).mono ?_); unfold IntPost; rintro e w2 ⟨rfl, hk⟩; exact ⟨rfl, IB.fresh HJ hk⟩) | (go_at_call 105; (with_reducible refine (HI.out.a1 _).mono ?_); unfold OfPost; rintro e w2 ⟨rfl, hk⟩; exact ⟨rfl, IB.fresh HJ hk⟩) | (fail)); (try simp only [Act.put, List.setIfInBounds_toArray, List.set_cons_zero, List.set_cons_succ]); go_big_quiet_on))
  refine wpQuiet_nil ?_
  intro w3 hJ
  have HJ3 := Lib.hid hJ
  clear hJ
  go_wp2
  go_ret
  exact ⟨rfl, HJ3.out.k⟩
set_option maxRecDepth 100000 in
set_option maxHeartbeats 3200000 in
theorem ins_10 (ds dq kind it is rt rs site : Int) (deps : List Dt) (text : ByteArray) (dA gA : Option Addr) (dc gc : Nat) (n : Nat) (z e1t e1s e2t e2s : Int) (x2 x7 x8 x9 : Bool) (w : World)
    (HI : Hid (InsF it is rt rs text site x2 n z e1t e1s e2t e2s x7 x8 x9)) (hnn : n ≤ 1000000) (h2 : x2 = true) (h3 : 0 < n) (h4 : n ≤ 1024) (h5 : z < 0) (h6 : (is == ds) = true) (h7 : x7 = true) (h8 : x8 = false) (h9 : x9 = true) (h10 : it ≤ rt) :
    Calls Try.prog 100 #[.agg #[.int .i64 it, .int .i64 is, .int .i64 rt, .int .i64 rs, .string text], .agg #[.int .i64 ds, .int .i64 dq, .slice dA deps.length dc, .int .i64 kind, .int .i64 it, .int .i64 is, .int .i64 rt, .int .i64 rs, .string text, .slice gA 0 gc, .int .i64 site]] w (BoolPost w false) := by
  have q2 := HI.out.q2
  rw [h2] at q2
  clear h2
  have q7 := HI.out.q7
  rw [h7] at q7
  clear h7
  have q8 := HI.out.q8
  rw [h8] at q8
  clear h8
  have q9 := HI.out.q9
  rw [h9] at q9
  clear h9
  have hwr : IntKind.i64.wrap ((n : Int) - 1) = (n : Int) - 1 := IntWalk.i64_in _ ⟨by omega, by omega⟩
  have h4' : decide ((n : Int) ≤ 1024) = true := decide_eq_true (by omega)
  have h5' : decide (z < 0) = true := decide_eq_true (by omega)
  have h10' : decide (rt < it) = false := decide_eq_false (by omega)
  have HZ := Lib.hid (show IB w w.heap.size ds dq dA deps.length dc kind it is rt rs text gA 0 gc site ((w.alloc (.cells #[.int .i64 it, .int .i64 is, .int .i64 rt, .int .i64 rs, .string text] 114)).alloc (.cells #[.int .i64 ds, .int .i64 dq, .slice dA deps.length dc, .int .i64 kind, .int .i64 it, .int .i64 is, .int .i64 rt, .int .i64 rs, .string text, .slice gA 0 gc, .int .i64 site] 30)) from ⟨(Box.new w 114 #[.int .i64 it, .int .i64 is, .int .i64 rt, .int .i64 rs, .string text]).alloc _, (Box.new (w.alloc (.cells #[.int .i64 it, .int .i64 is, .int .i64 rt, .int .i64 rs, .string text] 114)) 30 #[.int .i64 ds, .int .i64 dq, .slice dA deps.length dc, .int .i64 kind, .int .i64 it, .int .i64 is, .int .i64 rt, .int .i64 rs, .string text, .slice gA 0 gc, .int .i64 site]).at_eq (by simp), ((Kept.refl _ _).alloc _).alloc _⟩)
  have HR := Lib.hid (show ∀ W, Calls Try.prog 103 #[.agg #[.int .i64 ds, .int .i64 dq, .slice dA deps.length dc, .int .i64 kind, .int .i64 it, .int .i64 is, .int .i64 rt, .int .i64 rs, .string text, .slice gA 0 gc, .int .i64 site]] W (OfPost W (.agg #[.int .i64 it, .int .i64 is, .int .i64 rt, .int .i64 rs, .string text, .int .i64 site])) from fun W => restOf_any ⟨⟨ds, dq⟩, deps, kind, ⟨it, is⟩, ⟨rt, rs⟩, text, [], site⟩ dA gA dc gc W)
  go_enter Try.func100, Try.ntmps100
  go_wp2_with (fail)
  refine (HI.out.cnt _).mono ?_
  unfold IntPost
  rintro e w1 ⟨rfl, hk⟩
  have HZ1 := Lib.hid (HZ.out.fresh hk)
  clear hk HZ
  go_wp2_with (fail)
  refine wp_region_class (l := _ :: _ :: _ :: _ :: _ :: _ :: _ :: _ :: _ :: _ :: _ :: _ :: _ :: _ :: _ :: _ :: _ :: _ :: _ :: _ :: _ :: _ :: _ :: _ :: _ :: _ :: _ :: _ :: _ :: _ :: _ :: _ :: _ :: _ :: _ :: _ :: _ :: _ :: _ :: _ :: _ :: _ :: _ :: _ :: _ :: _ :: _ :: _ :: _ :: _ :: _ :: _ :: _ :: _ :: _ :: _ :: _ :: _ :: _ :: _ :: _ :: _ :: _ :: _ :: _ :: _ :: _ :: _ :: _ :: _ :: _ :: _ :: []) (C := fun w' => IB w w.heap.size ds dq dA deps.length dc kind it is rt rs text gA 0 gc site w') (by kernel_rfl) (by kernel_rfl) HZ1.out.drew ?_
  repeat
    first | go_big_quiet_skip | (go_big_quiet_want; first | (go_big_quiet_op; go_big_quiet_on) | (apply Exists.intro; refine ⟨fun w' hS => ?_, ?_⟩; (have HJ := hS; obtain ⟨⟨i0, i1, i2, i3, i4⟩, c0, c1, c2, c3, c4, c5, c6, c7, c8, c9, c10⟩ := IB.S hS; go_simp; first | rfl | exact ⟨rfl, rfl⟩ | (go_at_call 103; (with_reducible refine (HR.out _).mono ?_); unfold OfPost; rintro e w2 ⟨rfl, hk⟩; exact ⟨rfl, IB.fresh HJ hk⟩) | (go_at_call 104; (with_reducible refine (HI.out.bad _).mono ?_); unfold IntPost; rintro e w2 ⟨rfl, hk⟩; exact ⟨rfl, IB.fresh HJ hk⟩) | (go_at_call 105; (with_reducible refine (HI.out.a1 _).mono ?_); unfold OfPost; rintro e w2 ⟨rfl, hk⟩; exact ⟨rfl, IB.fresh HJ hk⟩) | (go_at_call 105; (with_reducible refine (HI.out.a2 _).mono ?_); unfold OfPost; rintro e w2 ⟨rfl, hk⟩; exact ⟨rfl, IB.fresh HJ hk⟩) | (fail)); (try simp only [Act.put, List.setIfInBounds_toArray, List.set_cons_zero, List.set_cons_succ]); go_big_quiet_on))
  refine wpQuiet_nil ?_
  intro w3 hJ
  have HJ3 := Lib.hid hJ
  clear hJ
  go_wp2
  go_ret
  exact ⟨rfl, HJ3.out.k⟩
end Go.Proofs.Ytnlklhlnnoihiaa

namespace Go.Proofs.Ytnlklhlnnoihiaa
open Go Go.RowKit
set_option maxRecDepth 100000 in
set_option maxHeartbeats 3200000 in
theorem ins_11 (ds dq kind it is rt rs site : Int) (deps : List Dt) (text : ByteArray) (dA gA : Option Addr) (dc gc : Nat) (n : Nat) (z e1t e1s e2t e2s : Int) (x2 x7 x8 x9 : Bool) (w : World)
    (HI : Hid (InsF it is rt rs text site x2 n z e1t e1s e2t e2s x7 x8 x9)) (hnn : n ≤ 1000000) (h2 : x2 = true) (h3 : 0 < n) (h4 : n ≤ 1024) (h5 : z < 0) (h6 : (is == ds) = true) (h7 : x7 = true) (h8 : x8 = true) (h10 : rt < it) :
    Calls Try.prog 100 #[.agg #[.int .i64 it, .int .i64 is, .int .i64 rt, .int .i64 rs, .string text], .agg #[.int .i64 ds, .int .i64 dq, .slice dA deps.length dc, .int .i64 kind, .int .i64 it, .int .i64 is, .int .i64 rt, .int .i64 rs, .string text, .slice gA 0 gc, .int .i64 site]] w (BoolPost w true) := by
  have q2 := HI.out.q2
  rw [h2] at q2
  clear h2
  have q7 := HI.out.q7
  rw [h7] at q7
  clear h7
  have q8 := HI.out.q8
  rw [h8] at q8
  clear h8
  have hwr : IntKind.i64.wrap ((n : Int) - 1) = (n : Int) - 1 := IntWalk.i64_in _ ⟨by omega, by omega⟩
  have h4' : decide ((n : Int) ≤ 1024) = true := decide_eq_true (by omega)
  have h5' : decide (z < 0) = true := decide_eq_true (by omega)
  have h10' : decide (rt < it) = true := decide_eq_true (by omega)
  have HZ := Lib.hid (show IB w w.heap.size ds dq dA deps.length dc kind it is rt rs text gA 0 gc site ((w.alloc (.cells #[.int .i64 it, .int .i64 is, .int .i64 rt, .int .i64 rs, .string text] 114)).alloc (.cells #[.int .i64 ds, .int .i64 dq, .slice dA deps.length dc, .int .i64 kind, .int .i64 it, .int .i64 is, .int .i64 rt, .int .i64 rs, .string text, .slice gA 0 gc, .int .i64 site] 30)) from ⟨(Box.new w 114 #[.int .i64 it, .int .i64 is, .int .i64 rt, .int .i64 rs, .string text]).alloc _, (Box.new (w.alloc (.cells #[.int .i64 it, .int .i64 is, .int .i64 rt, .int .i64 rs, .string text] 114)) 30 #[.int .i64 ds, .int .i64 dq, .slice dA deps.length dc, .int .i64 kind, .int .i64 it, .int .i64 is, .int .i64 rt, .int .i64 rs, .string text, .slice gA 0 gc, .int .i64 site]).at_eq (by simp), ((Kept.refl _ _).alloc _).alloc _⟩)
  have HR := Lib.hid (show ∀ W, Calls Try.prog 103 #[.agg #[.int .i64 ds, .int .i64 dq, .slice dA deps.length dc, .int .i64 kind, .int .i64 it, .int .i64 is, .int .i64 rt, .int .i64 rs, .string text, .slice gA 0 gc, .int .i64 site]] W (OfPost W (.agg #[.int .i64 it, .int .i64 is, .int .i64 rt, .int .i64 rs, .string text, .int .i64 site])) from fun W => restOf_any ⟨⟨ds, dq⟩, deps, kind, ⟨it, is⟩, ⟨rt, rs⟩, text, [], site⟩ dA gA dc gc W)
  go_enter Try.func100, Try.ntmps100
  go_wp2_with (fail)
  refine (HI.out.cnt _).mono ?_
  unfold IntPost
  rintro e w1 ⟨rfl, hk⟩
  have HZ1 := Lib.hid (HZ.out.fresh hk)
  clear hk HZ
  go_wp2_with (fail)
  refine wp_region_class (l := _ :: _ :: _ :: _ :: _ :: _ :: _ :: _ :: _ :: _ :: _ :: _ :: _ :: _ :: _ :: _ :: _ :: _ :: _ :: _ :: _ :: _ :: _ :: _ :: _ :: _ :: _ :: _ :: _ :: _ :: _ :: _ :: _ :: _ :: _ :: _ :: _ :: _ :: _ :: _ :: _ :: _ :: _ :: _ :: _ :: _ :: _ :: _ :: _ :: _ :: _ :: _ :: _ :: _ :: _ :: _ :: _ :: _ :: _ :: _ :: _ :: _ :: _ :: _ :: _ :: _ :: _ :: _ :: _ :: _ :: _ :: _ :: []) (C := fun w' => IB w w.heap.size ds dq dA deps.length dc kind it is rt rs text gA 0 gc site w') (by kernel_rfl) (by kernel_rfl) HZ1.out.drew ?_
  repeat
    first | go_big_quiet_skip | (go_big_quiet_want; first | (go_big_quiet_op; go_big_quiet_on) | (apply Exists.intro; refine ⟨fun w' hS => ?_, ?_⟩; (have HJ := hS; obtain ⟨⟨i0, i1, i2, i3, i4⟩, c0, c1, c2, c3, c4, c5, c6, c7, c8, c9, c10⟩ := IB.S hS; go_simp; first | rfl | exact ⟨rfl, rfl⟩ | (go_at_call 103; (with_reducible refine (HR.out _).mono ?_); unfold OfPost; rintro e w2 ⟨rfl, hk⟩; exact ⟨rfl, IB.fresh HJ hk⟩) | (go_at_call 104; (with_reducible refine (HI.out.bad _).mono ?_); unfold IntPost; rintro e w2 ⟨rfl, hk⟩; exact ⟨rfl, IB.fresh HJ hk⟩) | (go_at_call 105; (with_reducible refine (HI.out.a1 _).mono ?_); unfold OfPost; rintro e w2 ⟨rfl, hk⟩; exact ⟨rfl, IB.fresh HJ hk⟩) | (fail)); (try simp only [Act.put, List.setIfInBounds_toArray, List.set_cons_zero, List.set_cons_succ]); go_big_quiet_on))
  refine wpQuiet_nil ?_
  intro w3 hJ
  have HJ3 := Lib.hid hJ
  clear hJ
  go_wp2
  go_ret
  exact ⟨rfl, HJ3.out.k⟩
set_option maxRecDepth 100000 in
set_option maxHeartbeats 3200000 in
theorem ins_12 (ds dq kind it is rt rs site : Int) (deps : List Dt) (text : ByteArray) (dA gA : Option Addr) (dc gc : Nat) (n : Nat) (z e1t e1s e2t e2s : Int) (x2 x7 x8 x9 : Bool) (w : World)
    (HI : Hid (InsF it is rt rs text site x2 n z e1t e1s e2t e2s x7 x8 x9)) (hnn : n ≤ 1000000) (h2 : x2 = true) (h3 : 0 < n) (h4 : n ≤ 1024) (h5 : z < 0) (h6 : (is == ds) = true) (h7 : x7 = true) (h8 : x8 = false) (h9 : x9 = true) (h10 : rt < it) :
    Calls Try.prog 100 #[.agg #[.int .i64 it, .int .i64 is, .int .i64 rt, .int .i64 rs, .string text], .agg #[.int .i64 ds, .int .i64 dq, .slice dA deps.length dc, .int .i64 kind, .int .i64 it, .int .i64 is, .int .i64 rt, .int .i64 rs, .string text, .slice gA 0 gc, .int .i64 site]] w (BoolPost w true) := by
  have q2 := HI.out.q2
  rw [h2] at q2
  clear h2
  have q7 := HI.out.q7
  rw [h7] at q7
  clear h7
  have q8 := HI.out.q8
  rw [h8] at q8
  clear h8
  have q9 := HI.out.q9
  rw [h9] at q9
  clear h9
  have hwr : IntKind.i64.wrap ((n : Int) - 1) = (n : Int) - 1 := IntWalk.i64_in _ ⟨by omega, by omega⟩
  have h4' : decide ((n : Int) ≤ 1024) = true := decide_eq_true (by omega)
  have h5' : decide (z < 0) = true := decide_eq_true (by omega)
  have h10' : decide (rt < it) = true := decide_eq_true (by omega)
  have HZ := Lib.hid (show IB w w.heap.size ds dq dA deps.length dc kind it is rt rs text gA 0 gc site ((w.alloc (.cells #[.int .i64 it, .int .i64 is, .int .i64 rt, .int .i64 rs, .string text] 114)).alloc (.cells #[.int .i64 ds, .int .i64 dq, .slice dA deps.length dc, .int .i64 kind, .int .i64 it, .int .i64 is, .int .i64 rt, .int .i64 rs, .string text, .slice gA 0 gc, .int .i64 site] 30)) from ⟨(Box.new w 114 #[.int .i64 it, .int .i64 is, .int .i64 rt, .int .i64 rs, .string text]).alloc _, (Box.new (w.alloc (.cells #[.int .i64 it, .int .i64 is, .int .i64 rt, .int .i64 rs, .string text] 114)) 30 #[.int .i64 ds, .int .i64 dq, .slice dA deps.length dc, .int .i64 kind, .int .i64 it, .int .i64 is, .int .i64 rt, .int .i64 rs, .string text, .slice gA 0 gc, .int .i64 site]).at_eq (by simp), ((Kept.refl _ _).alloc _).alloc _⟩)
  have HR := Lib.hid (show ∀ W, Calls Try.prog 103 #[.agg #[.int .i64 ds, .int .i64 dq, .slice dA deps.length dc, .int .i64 kind, .int .i64 it, .int .i64 is, .int .i64 rt, .int .i64 rs, .string text, .slice gA 0 gc, .int .i64 site]] W (OfPost W (.agg #[.int .i64 it, .int .i64 is, .int .i64 rt, .int .i64 rs, .string text, .int .i64 site])) from fun W => restOf_any ⟨⟨ds, dq⟩, deps, kind, ⟨it, is⟩, ⟨rt, rs⟩, text, [], site⟩ dA gA dc gc W)
  go_enter Try.func100, Try.ntmps100
  go_wp2_with (fail)
  refine (HI.out.cnt _).mono ?_
  unfold IntPost
  rintro e w1 ⟨rfl, hk⟩
  have HZ1 := Lib.hid (HZ.out.fresh hk)
  clear hk HZ
  go_wp2_with (fail)
  refine wp_region_class (l := _ :: _ :: _ :: _ :: _ :: _ :: _ :: _ :: _ :: _ :: _ :: _ :: _ :: _ :: _ :: _ :: _ :: _ :: _ :: _ :: _ :: _ :: _ :: _ :: _ :: _ :: _ :: _ :: _ :: _ :: _ :: _ :: _ :: _ :: _ :: _ :: _ :: _ :: _ :: _ :: _ :: _ :: _ :: _ :: _ :: _ :: _ :: _ :: _ :: _ :: _ :: _ :: _ :: _ :: _ :: _ :: _ :: _ :: _ :: _ :: _ :: _ :: _ :: _ :: _ :: _ :: _ :: _ :: _ :: _ :: _ :: _ :: []) (C := fun w' => IB w w.heap.size ds dq dA deps.length dc kind it is rt rs text gA 0 gc site w') (by kernel_rfl) (by kernel_rfl) HZ1.out.drew ?_
  repeat
    first | go_big_quiet_skip | (go_big_quiet_want; first | (go_big_quiet_op; go_big_quiet_on) | (apply Exists.intro; refine ⟨fun w' hS => ?_, ?_⟩; (have HJ := hS; obtain ⟨⟨i0, i1, i2, i3, i4⟩, c0, c1, c2, c3, c4, c5, c6, c7, c8, c9, c10⟩ := IB.S hS; go_simp; first | rfl | exact ⟨rfl, rfl⟩ | (go_at_call 103; (with_reducible refine (HR.out _).mono ?_); unfold OfPost; rintro e w2 ⟨rfl, hk⟩; exact ⟨rfl, IB.fresh HJ hk⟩) | (go_at_call 104; (with_reducible refine (HI.out.bad _).mono ?_); unfold IntPost; rintro e w2 ⟨rfl, hk⟩; exact ⟨rfl, IB.fresh HJ hk⟩) | (go_at_call 105; (with_reducible refine (HI.out.a1 _).mono ?_); unfold OfPost; rintro e w2 ⟨rfl, hk⟩; exact ⟨rfl, IB.fresh HJ hk⟩) | (go_at_call 105; (with_reducible refine (HI.out.a2 _).mono ?_); unfold OfPost; rintro e w2 ⟨rfl, hk⟩; exact ⟨rfl, IB.fresh HJ hk⟩) | (fail)); (try simp only [Act.put, List.setIfInBounds_toArray, List.set_cons_zero, List.set_cons_succ]); go_big_quiet_on))
  refine wpQuiet_nil ?_
  intro w3 hJ
  have HJ3 := Lib.hid hJ
  clear hJ
  go_wp2
  go_ret
  exact ⟨rfl, HJ3.out.k⟩
end Go.Proofs.Ytnlklhlnnoihiaa
