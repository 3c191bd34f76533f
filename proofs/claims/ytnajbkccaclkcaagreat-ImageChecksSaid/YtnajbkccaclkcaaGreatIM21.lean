/- The walk of insert.right: paths ins_9 ins_10. · The walk of insert.right: paths ins_11 ins_12. · insert.right = insB. Conditions: the text is no longer than a machine holds, the runs are no more than a million. -/
import Derived.Test.YtnajbkccaclkcaaGreatIM20
namespace Go.Proofs.YtnajbkccaclkcaaGreat
open Go Go.RowKit
set_option maxRecDepth 100000 in
set_option maxHeartbeats 3200000 in
theorem ins_9 (ds dq kind it is rt rs site : Int) (deps : List Dt) (text : ByteArray) (dA gA : Option Addr) (dc gc : Nat) (n : Nat) (z e1t e1s e2t e2s : Int) (x2 x7 x8 x9 : Bool) (w : World)
    (HI : Hid (InsF it is rt rs text site x2 n z e1t e1s e2t e2s x7 x8 x9)) (hnn : n ≤ 1000000) (h2 : x2 = true) (h3 : 0 < n) (h4 : n ≤ 1024) (h5 : z < 0) (h6 : (is == ds) = true) (h7 : x7 = true) (h8 : x8 = true) (h10 : it ≤ rt) :
    Calls Tryz.prog 140 #[.agg #[.int .i64 it, .int .i64 is, .int .i64 rt, .int .i64 rs, .string text], .agg #[.int .i64 ds, .int .i64 dq, .slice dA deps.length dc, .int .i64 kind, .int .i64 it, .int .i64 is, .int .i64 rt, .int .i64 rs, .string text, .slice gA 0 gc, .int .i64 site]] w (BoolPost w false) := by
  have q2 := HI.out.q2
  rw [h2] at q2
  clear h2
  have q7 := HI.out.q7
  rw [h7] at q7
  clear h7
  have q8 := HI.out.q8
  rw [h8] at q8
  clear h8
  have hwr : IntKind.i64.wrap ((n : Int) - 1) = (n : Int) - 1 := IntWalk.i64_in _ ⟨by omega, by omega⟩
  have h4' : decide ((n : Int) ≤ 1024) = true := decide_eq_true (by omega)
  have h5' : decide (z < 0) = true := decide_eq_true (by omega)
  have h10' : decide (rt < it) = false := decide_eq_false (by omega)
  have HZ := Lib.hid (show IB w w.heap.size ds dq dA deps.length dc kind it is rt rs text gA 0 gc site ((w.alloc (.cells #[.int .i64 it, .int .i64 is, .int .i64 rt, .int .i64 rs, .string text] 158)).alloc (.cells #[.int .i64 ds, .int .i64 dq, .slice dA deps.length dc, .int .i64 kind, .int .i64 it, .int .i64 is, .int .i64 rt, .int .i64 rs, .string text, .slice gA 0 gc, .int .i64 site] 64)) from ⟨(Box.new w 158 #[.int .i64 it, .int .i64 is, .int .i64 rt, .int .i64 rs, .string text]).alloc _, (Box.new (w.alloc (.cells #[.int .i64 it, .int .i64 is, .int .i64 rt, .int .i64 rs, .string text] 158)) 64 #[.int .i64 ds, .int .i64 dq, .slice dA deps.length dc, .int .i64 kind, .int .i64 it, .int .i64 is, .int .i64 rt, .int .i64 rs, .string text, .slice gA 0 gc, .int .i64 site]).at_eq (by simp), ((Kept.refl _ _).alloc _).alloc _⟩)
  have HR := Lib.hid (show ∀ W, Calls Tryz.prog 144 #[.agg #[.int .i64 ds, .int .i64 dq, .slice dA deps.length dc, .int .i64 kind, .int .i64 it, .int .i64 is, .int .i64 rt, .int .i64 rs, .string text, .slice gA 0 gc, .int .i64 site]] W (OfPost W (.agg #[.int .i64 it, .int .i64 is, .int .i64 rt, .int .i64 rs, .string text, .int .i64 site])) from fun W => restOf_any ⟨⟨ds, dq⟩, deps, kind, ⟨it, is⟩, ⟨rt, rs⟩, text, [], site⟩ dA gA dc gc W)
  go_enter Tryz.func140, Tryz.ntmps140
  go_wp2_with (fail)
  refine (HI.out.cnt _).mono ?_
  unfold IntPost
  rintro e w1 ⟨rfl, hk⟩
  have HZ1 := Lib.hid (HZ.out.fresh hk)
  clear hk HZ
  go_wp2_with (fail)
  refine wp_region_class (l := _ :: _ :: _ :: _ :: _ :: _ :: _ :: _ :: _ :: _ :: _ :: _ :: _ :: _ :: _ :: _ :: _ :: _ :: _ :: _ :: _ :: _ :: _ :: _ :: _ :: _ :: _ :: _ :: _ :: _ :: _ :: _ :: _ :: _ :: _ :: _ :: _ :: _ :: _ :: _ :: _ :: _ :: _ :: _ :: _ :: _ :: _ :: _ :: _ :: _ :: _ :: _ :: _ :: _ :: _ :: _ :: _ :: _ :: _ :: _ :: _ :: _ :: _ :: _ :: _ :: _ :: _ :: _ :: _ :: _ :: _ :: _ :: []) (C := fun w' => IB w w.heap.size ds dq dA deps.length dc kind it is rt rs text gA 0 gc site w') (by kernel_rfl) (by kernel_rfl) HZ1.out.drew ?_
  repeat
    first | go_big_quiet_skip | (go_big_quiet_want; first | (go_big_quiet_op; go_big_quiet_on) | (apply Exists.intro; refine ⟨fun w' hS => ?_, ?_⟩; (have HJ := hS; obtain ⟨⟨i0, i1, i2, i3, i4⟩, c0, c1, c2, c3, c4, c5, c6, c7, c8, c9, c10⟩ := IB.S hS; go_simp; first | rfl | exact ⟨rfl, rfl⟩ | (go_at_call 144; (with_reducible refine (HR.out _).mono ?_); unfold OfPost; rintro e w2 ⟨rfl, hk⟩; exact ⟨rfl, IB.fresh HJ hk⟩) | (go_at_call 145; (with_reducible refine (HI.out.bad _).mono ?_); unfold IntPost; rintro e w2 ⟨rfl, hk⟩; exact ⟨rfl, IB.fresh HJ hk⟩) | (go_at_call 104; (with_reducible refine (HI.out.a1 _).mono ?_); unfold OfPost; rintro e w2 ⟨rfl, hk⟩; exact ⟨rfl, IB.fresh HJ hk⟩) | (fail)); (try simp only [Act.put, List.setIfInBounds_toArray, List.set_cons_zero, List.set_cons_succ]); go_big_quiet_on))
  refine wpQuiet_nil ?_
  intro w3 hJ
  have HJ3 := Lib.hid hJ
  clear hJ
  go_wp2
  go_ret
  exact ⟨rfl, HJ3.out.k⟩
set_option maxRecDepth 100000 in
set_option maxHeartbeats 3200000 in
theorem ins_10 (ds dq kind it is rt rs site : Int) (deps : List Dt) (text : ByteArray) (dA gA : Option Addr) (dc gc : Nat) (n : Nat) (z e1t e1s e2t e2s : Int) (x2 x7 x8 x9 : Bool) (w : World)
    (HI : Hid (InsF it is rt rs text site x2 n z e1t e1s e2t e2s x7 x8 x9)) (hnn : n ≤ 1000000) (h2 : x2 = true) (h3 : 0 < n) (h4 : n ≤ 1024) (h5 : z < 0) (h6 : (is == ds) = true) (h7 : x7 = true) (h8 : x8 = false) (h9 : x9 = true) (h10 : it ≤ rt) :
    Calls Tryz.prog 140 #[.agg #[.int .i64 it, .int .i64 is, .int .i64 rt, .int .i64 rs, .string text], .agg #[.int .i64 ds, .int .i64 dq, .slice dA deps.length dc, .int .i64 kind, .int .i64 it, .int .i64 is, .int .i64 rt, .int .i64 rs, .string text, .slice gA 0 gc, .int .i64 site]] w (BoolPost w false) := by
  have q2 := HI.out.q2
  rw [h2] at q2
  clear h2
  have q7 := HI.out.q7
  rw [h7] at q7
  clear h7
  have q8 := HI.out.q8
  rw [h8] at q8
  clear h8
  have q9 := HI.out.q9
  rw [h9] at q9
  clear h9
  have hwr : IntKind.i64.wrap ((n : Int) - 1) = (n : Int) - 1 := IntWalk.i64_in _ ⟨by omega, by omega⟩
  have h4' : decide ((n : Int) ≤ 1024) = true := decide_eq_true (by omega)
  have h5' : decide (z < 0) = true := decide_eq_true (by omega)
  have h10' : decide (rt < it) = false := decide_eq_false (by omega)
  have HZ := Lib.hid (show IB w w.heap.size ds dq dA deps.length dc kind it is rt rs text gA 0 gc site ((w.alloc (.cells #[.int .i64 it, .int .i64 is, .int .i64 rt, .int .i64 rs, .string text] 158)).alloc (.cells #[.int .i64 ds, .int .i64 dq, .slice dA deps.length dc, .int .i64 kind, .int .i64 it, .int .i64 is, .int .i64 rt, .int .i64 rs, .string text, .slice gA 0 gc, .int .i64 site] 64)) from ⟨(Box.new w 158 #[.int .i64 it, .int .i64 is, .int .i64 rt, .int .i64 rs, .string text]).alloc _, (Box.new (w.alloc (.cells #[.int .i64 it, .int .i64 is, .int .i64 rt, .int .i64 rs, .string text] 158)) 64 #[.int .i64 ds, .int .i64 dq, .slice dA deps.length dc, .int .i64 kind, .int .i64 it, .int .i64 is, .int .i64 rt, .int .i64 rs, .string text, .slice gA 0 gc, .int .i64 site]).at_eq (by simp), ((Kept.refl _ _).alloc _).alloc _⟩)
  have HR := Lib.hid (show ∀ W, Calls Tryz.prog 144 #[.agg #[.int .i64 ds, .int .i64 dq, .slice dA deps.length dc, .int .i64 kind, .int .i64 it, .int .i64 is, .int .i64 rt, .int .i64 rs, .string text, .slice gA 0 gc, .int .i64 site]] W (OfPost W (.agg #[.int .i64 it, .int .i64 is, .int .i64 rt, .int .i64 rs, .string text, .int .i64 site])) from fun W => restOf_any ⟨⟨ds, dq⟩, deps, kind, ⟨it, is⟩, ⟨rt, rs⟩, text, [], site⟩ dA gA dc gc W)
  go_enter Tryz.func140, Tryz.ntmps140
  go_wp2_with (fail)
  refine (HI.out.cnt _).mono ?_
  unfold IntPost
  rintro e w1 ⟨rfl, hk⟩
  have HZ1 := Lib.hid (HZ.out.fresh hk)
  clear hk HZ
  go_wp2_with (fail)
  refine wp_region_class (l := _ :: _ :: _ :: _ :: _ :: _ :: _ :: _ :: _ :: _ :: _ :: _ :: _ :: _ :: _ :: _ :: _ :: _ :: _ :: _ :: _ :: _ :: _ :: _ :: _ :: _ :: _ :: _ :: _ :: _ :: _ :: _ :: _ :: _ :: _ :: _ :: _ :: _ :: _ :: _ :: _ :: _ :: _ :: _ :: _ :: _ :: _ :: _ :: _ :: _ :: _ :: _ :: _ :: _ :: _ :: _ :: _ :: _ :: _ :: _ :: _ :: _ :: _ :: _ :: _ :: _ :: _ :: _ :: _ :: _ :: _ :: _ :: []) (C := fun w' => IB w w.heap.size ds dq dA deps.length dc kind it is rt rs text gA 0 gc site w') (by kernel_rfl) (by kernel_rfl) HZ1.out.drew ?_
  repeat
    first | go_big_quiet_skip | (go_big_quiet_want; first | (go_big_quiet_op; go_big_quiet_on) | (apply Exists.intro; refine ⟨fun w' hS => ?_, ?_⟩; (have HJ := hS; obtain ⟨⟨i0, i1, i2, i3, i4⟩, c0, c1, c2, c3, c4, c5, c6, c7, c8, c9, c10⟩ := IB.S hS; go_simp; first | rfl | exact ⟨rfl, rfl⟩ | (go_at_call 144; (with_reducible refine (HR.out _).mono ?_); unfold OfPost; rintro e w2 ⟨rfl, hk⟩; exact ⟨rfl, IB.fresh HJ hk⟩) | (go_at_call 145; (with_reducible refine (HI.out.bad _).mono ?_); unfold IntPost; rintro e w2 ⟨rfl, hk⟩; exact ⟨rfl, IB.fresh HJ hk⟩) | (go_at_call 104; (with_reducible refine (HI.out.a1 _).mono ?_); unfold OfPost; rintro e w2 ⟨rfl, hk⟩; exact ⟨rfl, IB.fresh HJ hk⟩) | (go_at_call 104; (with_reducible refine (HI.out.a2 _).mono ?_); unfold OfPost; rintro e w2 ⟨rfl, hk⟩; exact ⟨rfl, IB.fresh HJ hk⟩) | (fail)); (try simp only [Act.put, List.setIfInBounds_toArray, List.set_cons_zero, List.set_cons_succ]); go_big_quiet_on))
  refine wpQuiet_nil ?_
  intro w3 hJ
  have HJ3 := Lib.hid hJ
  clear hJ
  go_wp2
  go_ret
  exact ⟨rfl, HJ3.out.k⟩
end Go.Proofs.YtnajbkccaclkcaaGreat

namespace Go.Proofs.YtnajbkccaclkcaaGreat
open Go Go.RowKit
set_option maxRecDepth 100000 in
set_option maxHeartbeats 3200000 in
theorem ins_11 (ds dq kind it is rt rs site : Int) (deps : List Dt) (text : ByteArray) (dA gA : Option Addr) (dc gc : Nat) (n : Nat) (z e1t e1s e2t e2s : Int) (x2 x7 x8 x9 : Bool) (w : World)
    (HI : Hid (InsF it is rt rs text site x2 n z e1t e1s e2t e2s x7 x8 x9)) (hnn : n ≤ 1000000) (h2 : x2 = true) (h3 : 0 < n) (h4 : n ≤ 1024) (h5 : z < 0) (h6 : (is == ds) = true) (h7 : x7 = true) (h8 : x8 = true) (h10 : rt < it) :
    Calls Tryz.prog 140 #[.agg #[.int .i64 it, .int .i64 is, .int .i64 rt, .int .i64 rs, .string text], .agg #[.int .i64 ds, .int .i64 dq, .slice dA deps.length dc, .int .i64 kind, .int .i64 it, .int .i64 is, .int .i64 rt, .int .i64 rs, .string text, .slice gA 0 gc, .int .i64 site]] w (BoolPost w true) := by
  have q2 := HI.out.q2
  rw [h2] at q2
  clear h2
  have q7 := HI.out.q7
  rw [h7] at q7
  clear h7
  have q8 := HI.out.q8
  rw [h8] at q8
  clear h8
  have hwr : IntKind.i64.wrap ((n : Int) - 1) = (n : Int) - 1 := IntWalk.i64_in _ ⟨by omega, by omega⟩
  have h4' : decide ((n : Int) ≤ 1024) = true := decide_eq_true (by omega)
  have h5' : decide (z < 0) = true := decide_eq_true (by omega)
  have h10' : decide (rt < it) = true := decide_eq_true (by omega)
  have HZ := Lib.hid (show IB w w.heap.size ds dq dA deps.length dc kind it is rt rs text gA 0 gc site ((w.alloc (.cells #[.int .i64 it, .int .i64 is, .int .i64 rt, .int .i64 rs, .string text] 158)).alloc (.cells #[.int .i64 ds, .int .i64 dq, .slice dA deps.length dc, .int .i64 kind, .int .i64 it, .int .i64 is, .int .i64 rt, .int .i64 rs, .string text, .slice gA 0 gc, .int .i64 site] 64)) from ⟨(Box.new w 158 #[.int .i64 it, .int .i64 is, .int .i64 rt, .int .i64 rs, .string text]).alloc _, (Box.new (w.alloc (.cells #[.int .i64 it, .int .i64 is, .int .i64 rt, .int .i64 rs, .string text] 158)) 64 #[.int .i64 ds, .int .i64 dq, .slice dA deps.length dc, .int .i64 kind, .int .i64 it, .int .i64 is, .int .i64 rt, .int .i64 rs, .string text, .slice gA 0 gc, .int .i64 site]).at_eq (by simp), ((Kept.refl _ _).alloc _).alloc _⟩)
  have HR := Lib.hid (show ∀ W, Calls Tryz.prog 144 #[.agg #[.int .i64 ds, .int .i64 dq, .slice dA deps.length dc, .int .i64 kind, .int .i64 it, .int .i64 is, .int .i64 rt, .int .i64 rs, .string text, .slice gA 0 gc, .int .i64 site]] W (OfPost W (.agg #[.int .i64 it, .int .i64 is, .int .i64 rt, .int .i64 rs, .string text, .int .i64 site])) from fun W => restOf_any ⟨⟨ds, dq⟩, deps, kind, ⟨it, is⟩, ⟨rt, rs⟩, text, [], site⟩ dA gA dc gc W)
  go_enter Tryz.func140, Tryz.ntmps140
  go_wp2_with (fail)
  refine (HI.out.cnt _).mono ?_
  unfold IntPost
  rintro e w1 ⟨rfl, hk⟩
  have HZ1 := Lib.hid (HZ.out.fresh hk)
  clear hk HZ
  go_wp2_with (fail)
  refine wp_region_class (l := _ :: _ :: _ :: _ :: _ :: _ :: _ :: _ :: _ :: _ :: _ :: _ :: _ :: _ :: _ :: _ :: _ :: _ :: _ :: _ :: _ :: _ :: _ :: _ :: _ :: _ :: _ :: _ :: _ :: _ :: _ :: _ :: _ :: _ :: _ :: _ :: _ :: _ :: _ :: _ :: _ :: _ :: _ :: _ :: _ :: _ :: _ :: _ :: _ :: _ :: _ :: _ :: _ :: _ :: _ :: _ :: _ :: _ :: _ :: _ :: _ :: _ :: _ :: _ :: _ :: _ :: _ :: _ :: _ :: _ :: _ :: _ :: []) (C := fun w' => IB w w.heap.size ds dq dA deps.length dc kind it is rt rs text gA 0 gc site w') (by kernel_rfl) (by kernel_rfl) HZ1.out.drew ?_
  repeat
    first | go_big_quiet_skip | (go_big_quiet_want; first | (go_big_quiet_op; go_big_quiet_on) | (apply Exists.intro; refine ⟨fun w' hS => ?_, ?_⟩; (have HJ := hS; obtain ⟨⟨i0, i1, i2, i3, i4⟩, c0, c1, c2, c3, c4, c5, c6, c7, c8, c9, c10⟩ := IB.S hS; go_simp; first | rfl | exact ⟨rfl, rfl⟩ | (go_at_call 144; (with_reducible refine (HR.out _).mono ?_); unfold OfPost; rintro e w2 ⟨rfl, hk⟩; exact ⟨rfl, IB.fresh HJ hk⟩) | (go_at_call 145; (with_reducible refine (HI.out.bad _).mono ?_); unfold IntPost; rintro e w2 ⟨rfl, hk⟩; exact ⟨rfl, IB.fresh HJ hk⟩) | (go_at_call 104; (with_reducible refine (HI.out.a1 _).mono ?_); unfold OfPost; rintro e w2 ⟨rfl, hk⟩; exact ⟨rfl, IB.fresh HJ hk⟩) | (fail)); (try simp only [Act.put, List.setIfInBounds_toArray, List.set_cons_zero, List.set_cons_succ]); go_big_quiet_on))
  refine wpQuiet_nil ?_
  intro w3 hJ
  have HJ3 := Lib.hid hJ
  clear hJ
  go_wp2
  go_ret
  exact ⟨rfl, HJ3.out.k⟩
set_option maxRecDepth 100000 in
set_option maxHeartbeats 3200000 in
theorem ins_12 (ds dq kind it is rt rs site : Int) (deps : List Dt) (text : ByteArray) (dA gA : Option Addr) (dc gc : Nat) (n : Nat) (z e1t e1s e2t e2s : Int) (x2 x7 x8 x9 : Bool) (w : World)
    (HI : Hid (InsF it is rt rs text site x2 n z e1t e1s e2t e2s x7 x8 x9)) (hnn : n ≤ 1000000) (h2 : x2 = true) (h3 : 0 < n) (h4 : n ≤ 1024) (h5 : z < 0) (h6 : (is == ds) = true) (h7 : x7 = true) (h8 : x8 = false) (h9 : x9 = true) (h10 : rt < it) :
    Calls Tryz.prog 140 #[.agg #[.int .i64 it, .int .i64 is, .int .i64 rt, .int .i64 rs, .string text], .agg #[.int .i64 ds, .int .i64 dq, .slice dA deps.length dc, .int .i64 kind, .int .i64 it, .int .i64 is, .int .i64 rt, .int .i64 rs, .string text, .slice gA 0 gc, .int .i64 site]] w (BoolPost w true) := by
  have q2 := HI.out.q2
  rw [h2] at q2
  clear h2
  have q7 := HI.out.q7
  rw [h7] at q7
  clear h7
  have q8 := HI.out.q8
  rw [h8] at q8
  clear h8
  have q9 := HI.out.q9
  rw [h9] at q9
  clear h9
  have hwr : IntKind.i64.wrap ((n : Int) - 1) = (n : Int) - 1 := IntWalk.i64_in _ ⟨by omega, by omega⟩
  have h4' : decide ((n : Int) ≤ 1024) = true := decide_eq_true (by omega)
  have h5' : decide (z < 0) = true := decide_eq_true (by omega)
  have h10' : decide (rt < it) = true := decide_eq_true (by omega)
  have HZ := Lib.hid (show IB w w.heap.size ds dq dA deps.length dc kind it is rt rs text gA 0 gc site ((w.alloc (.cells #[.int .i64 it, .int .i64 is, .int .i64 rt, .int .i64 rs, .string text] 158)).alloc (.cells #[.int .i64 ds, .int .i64 dq, .slice dA deps.length dc, .int .i64 kind, .int .i64 it, .int .i64 is, .int .i64 rt, .int .i64 rs, .string text, .slice gA 0 gc, .int .i64 site] 64)) from ⟨(Box.new w 158 #[.int .i64 it, .int .i64 is, .int .i64 rt, .int .i64 rs, .string text]).alloc _, (Box.new (w.alloc (.cells #[.int .i64 it, .int .i64 is, .int .i64 rt, .int .i64 rs, .string text] 158)) 64 #[.int .i64 ds, .int .i64 dq, .slice dA deps.length dc, .int .i64 kind, .int .i64 it, .int .i64 is, .int .i64 rt, .int .i64 rs, .string text, .slice gA 0 gc, .int .i64 site]).at_eq (by simp), ((Kept.refl _ _).alloc _).alloc _⟩)
  have HR := Lib.hid (show ∀ W, Calls Tryz.prog 144 #[.agg #[.int .i64 ds, .int .i64 dq, .slice dA deps.length dc, .int .i64 kind, .int .i64 it, .int .i64 is, .int .i64 rt, .int .i64 rs, .string text, .slice gA 0 gc, .int .i64 site]] W (OfPost W (.agg #[.int .i64 it, .int .i64 is, .int .i64 rt, .int .i64 rs, .string text, .int .i64 site])) from fun W => restOf_any ⟨⟨ds, dq⟩, deps, kind, ⟨it, is⟩, ⟨rt, rs⟩, text, [], site⟩ dA gA dc gc W)
  go_enter Tryz.func140, Tryz.ntmps140
  go_wp2_with (fail)
  refine (HI.out.cnt _).mono ?_
  unfold IntPost
  rintro e w1 ⟨rfl, hk⟩
  have HZ1 := Lib.hid (HZ.out.fresh hk)
  clear hk HZ
  go_wp2_with (fail)
  refine wp_region_class (l := _ :: _ :: _ :: _ :: _ :: _ :: _ :: _ :: _ :: _ :: _ :: _ :: _ :: _ :: _ :: _ :: _ :: _ :: _ :: _ :: _ :: _ :: _ :: _ :: _ :: _ :: _ :: _ :: _ :: _ :: _ :: _ :: _ :: _ :: _ :: _ :: _ :: _ :: _ :: _ :: _ :: _ :: _ :: _ :: _ :: _ :: _ :: _ :: _ :: _ :: _ :: _ :: _ :: _ :: _ :: _ :: _ :: _ :: _ :: _ :: _ :: _ :: _ :: _ :: _ :: _ :: _ :: _ :: _ :: _ :: _ :: _ :: []) (C := fun w' => IB w w.heap.size ds dq dA deps.length dc kind it is rt rs text gA 0 gc site w') (by kernel_rfl) (by kernel_rfl) HZ1.out.drew ?_
  repeat
    first | go_big_quiet_skip | (go_big_quiet_want; first | (go_big_quiet_op; go_big_quiet_on) | (apply Exists.intro; refine ⟨fun w' hS => ?_, ?_⟩; (have HJ := hS; obtain ⟨⟨i0, i1, i2, i3, i4⟩, c0, c1, c2, c3, c4, c5, c6, c7, c8, c9, c10⟩ := IB.S hS; go_simp; first | rfl | exact ⟨rfl, rfl⟩ | (go_at_call 144; (with_reducible refine (HR.out _).mono ?_); unfold OfPost; rintro e w2 ⟨rfl, hk⟩; exact ⟨rfl, IB.fresh HJ hk⟩) | (go_at_call 145; (with_reducible refine (HI.out.bad _).mono ?_); unfold IntPost; rintro e w2 ⟨rfl, hk⟩; exact ⟨rfl, IB.fresh HJ hk⟩) | (go_at_call 104; (with_reducible refine (HI.out.a1 _).mono ?_); unfold OfPost; rintro e w2 ⟨rfl, hk⟩; exact ⟨rfl, IB.fresh HJ hk⟩) | (go_at_call 104; (with_reducible refine (HI.out.a2 _).mono ?_); unfold OfPost; rintro e w2 ⟨rfl, hk⟩; exact ⟨rfl, IB.fresh HJ hk⟩) | (fail)); (try simp only [Act.put, List.setIfInBounds_toArray, List.set_cons_zero, List.set_cons_succ]); go_big_quiet_on))
  refine wpQuiet_nil ?_
  intro w3 hJ
  have HJ3 := Lib.hid hJ
  clear hJ
  go_wp2
  go_ret
  exact ⟨rfl, HJ3.out.k⟩
end Go.Proofs.YtnajbkccaclkcaaGreat

namespace Go.Proofs.YtnajbkccaclkcaaGreat
open Go Go.RowKit
theorem insert_any (o : Opr) (dA gA : Option Addr) (dc gc : Nat) (w : World) (hg : o.gone.length ≤ 1000000) (ht : o.text.size ≤ 1000000) :
    Calls Tryz.prog 140 #[.agg #[.int .i64 o.id.time, .int .i64 o.id.site, .int .i64 o.ref.time, .int .i64 o.ref.site, .string o.text], .agg (o.cells dA dc gA gc)] w (BoolPost w (insB o)) := by
  obtain ⟨⟨ds, dq⟩, deps, kind, ⟨it, is⟩, ⟨rt, rs⟩, text, gone, site⟩ := o
  simp only at hg ht
  unfold Opr.cells
  simp only
  have hnn : cnt text ≤ 1000000 := Nat.le_trans (cnt_le text) ht
  have hB : insB ⟨⟨ds, dq⟩, deps, kind, ⟨it, is⟩, ⟨rt, rs⟩, text, gone, site⟩ = (decide (gone.length = 0) && (sameRest ⟨it, is⟩ ⟨rt, rs⟩ text site ⟨it, is⟩ ⟨rt, rs⟩ text 0 && (decide (0 < cnt text) && (decide (cnt text ≤ 1024) && (decide (badAt text < 0) && (decide (is = ds) &&
    ((!decide ((afterI ⟨it, is⟩ (cnt text - 1)).time = 0 ∧ (afterI ⟨it, is⟩ (cnt text - 1)).site = 0)) && ((decide (rt = 0 ∧ rs = 0) || decide ((afterI ⟨rt, rs⟩ 0).time = rt ∧ (afterI ⟨rt, rs⟩ 0).site = rs)) && decide (rt < it)))))))) ) := by
    unfold insB
    simp only [← id_dec]
    rfl
  have HI := Lib.hid (show InsF it is rt rs text site (sameRest ⟨it, is⟩ ⟨rt, rs⟩ text site ⟨it, is⟩ ⟨rt, rs⟩ text 0) (cnt text) (badAt text) (afterI ⟨it, is⟩ (cnt text - 1)).time (afterI ⟨it, is⟩ (cnt text - 1)).site (afterI ⟨rt, rs⟩ 0).time (afterI ⟨rt, rs⟩ 0).site
      (!decide ((afterI ⟨it, is⟩ (cnt text - 1)).time = 0 ∧ (afterI ⟨it, is⟩ (cnt text - 1)).site = 0)) (decide (rt = 0 ∧ rs = 0)) (decide ((afterI ⟨rt, rs⟩ 0).time = rt ∧ (afterI ⟨rt, rs⟩ 0).site = rs)) from
    { cnt := fun W => Count_any text W (by omega), bad := fun W => BadAt_any text W (by omega),
      a1 := fun W => After_any ⟨it, is⟩ ((cnt text : Int) - 1) W ⟨by omega, by omega⟩, a2 := fun W => After_any ⟨rt, rs⟩ 0 W ⟨by omega, by omega⟩,
      q2 := fun W => eql_rest ⟨it, is⟩ ⟨rt, rs⟩ text site ⟨it, is⟩ ⟨rt, rs⟩ text 0 W, q7 := fun W => neq_id _ _ _ _ W, q8 := fun W => eql_id _ _ _ _ W, q9 := fun W => eql_id _ _ _ _ W })
  rw [hB]
  clear hB
  generalize sameRest ⟨it, is⟩ ⟨rt, rs⟩ text site ⟨it, is⟩ ⟨rt, rs⟩ text 0 = x2 at HI ⊢
  generalize (!decide ((afterI ⟨it, is⟩ (cnt text - 1)).time = 0 ∧ (afterI ⟨it, is⟩ (cnt text - 1)).site = 0)) = x7 at HI ⊢
  generalize decide (rt = 0 ∧ rs = 0) = x8 at HI ⊢
  generalize decide ((afterI ⟨rt, rs⟩ 0).time = rt ∧ (afterI ⟨rt, rs⟩ 0).site = rs) = x9 at HI ⊢
  generalize (afterI ⟨it, is⟩ (cnt text - 1)).time = e1t at HI
  generalize (afterI ⟨it, is⟩ (cnt text - 1)).site = e1s at HI
  generalize (afterI ⟨rt, rs⟩ 0).time = e2t at HI
  generalize (afterI ⟨rt, rs⟩ 0).site = e2s at HI
  generalize cnt text = n at *
  generalize badAt text = z at *
  rcases Nat.eq_zero_or_pos gone.length with h0 | h0
  · rw [h0, decide_eq_true (rfl : (0 : Nat) = 0), Bool.true_and]
    cases h2 : x2 with
    | false => exact ins_2 ds dq kind it is rt rs site deps text dA gA dc gc n z e1t e1s e2t e2s x2 x7 x8 x9 w HI h2
    | true =>
      rw [Bool.true_and]
      rcases Nat.lt_or_ge 0 n with h3 | h3
      · rw [decide_eq_true h3, Bool.true_and]
        rcases Nat.lt_or_ge 1024 n with h4 | h4
        · rw [decide_eq_false (by omega), Bool.false_and]
          exact ins_4 ds dq kind it is rt rs site deps text dA gA dc gc n z e1t e1s e2t e2s x2 x7 x8 x9 w HI h2 h3 h4
        · rw [decide_eq_true h4, Bool.true_and]
          rcases Int.lt_or_le z 0 with h5 | h5
          · rw [decide_eq_true h5, Bool.true_and]
            by_cases h6' : is = ds
            · have h6 : (is == ds) = true := by rw [h6']; exact beq_self_eq_true ds
              rw [decide_eq_true h6', Bool.true_and]
              cases h7 : x7 with
              | false => exact ins_7 ds dq kind it is rt rs site deps text dA gA dc gc n z e1t e1s e2t e2s x2 x7 x8 x9 w HI hnn h2 h3 h4 h5 h6 h7
              | true =>
                rw [Bool.true_and]
                cases h8 : x8 with
                | true =>
                  rw [Bool.true_or, Bool.true_and]
                  rcases Int.lt_or_le rt it with h10 | h10
                  · rw [decide_eq_true h10]
                    exact ins_11 ds dq kind it is rt rs site deps text dA gA dc gc n z e1t e1s e2t e2s x2 x7 x8 x9 w HI hnn h2 h3 h4 h5 h6 h7 h8 h10
                  · rw [decide_eq_false (by omega)]
                    exact ins_9 ds dq kind it is rt rs site deps text dA gA dc gc n z e1t e1s e2t e2s x2 x7 x8 x9 w HI hnn h2 h3 h4 h5 h6 h7 h8 h10
                | false =>
                  rw [Bool.false_or]
                  cases h9 : x9 with
                  | false => exact ins_8 ds dq kind it is rt rs site deps text dA gA dc gc n z e1t e1s e2t e2s x2 x7 x8 x9 w HI hnn h2 h3 h4 h5 h6 h7 h8 h9
                  | true =>
                    rw [Bool.true_and]
                    rcases Int.lt_or_le rt it with h10 | h10
                    · rw [decide_eq_true h10]
                      exact ins_12 ds dq kind it is rt rs site deps text dA gA dc gc n z e1t e1s e2t e2s x2 x7 x8 x9 w HI hnn h2 h3 h4 h5 h6 h7 h8 h9 h10
                    · rw [decide_eq_false (by omega)]
                      exact ins_10 ds dq kind it is rt rs site deps text dA gA dc gc n z e1t e1s e2t e2s x2 x7 x8 x9 w HI hnn h2 h3 h4 h5 h6 h7 h8 h9 h10
            · have h6 : (is == ds) = false := beq_eq_false_iff_ne.mpr h6'
              rw [decide_eq_false h6', Bool.false_and]
              exact ins_6 ds dq kind it is rt rs site deps text dA gA dc gc n z e1t e1s e2t e2s x2 x7 x8 x9 w HI h2 h3 h4 h5 h6
          · rw [decide_eq_false (by omega), Bool.false_and]
            exact ins_5 ds dq kind it is rt rs site deps text dA gA dc gc n z e1t e1s e2t e2s x2 x7 x8 x9 w HI h2 h3 h4 h5
      · rw [decide_eq_false (by omega), Bool.false_and]
        exact ins_3 ds dq kind it is rt rs site deps text dA gA dc gc n z e1t e1s e2t e2s x2 x7 x8 x9 w HI h2 (by omega)
  · rw [decide_eq_false (by omega), Bool.false_and]
    exact ins_1 ds dq kind it is rt rs site deps text dA gA dc gc gone.length n z e1t e1s e2t e2s x2 x7 x8 x9 w HI h0 hg
end Go.Proofs.YtnajbkccaclkcaaGreat
