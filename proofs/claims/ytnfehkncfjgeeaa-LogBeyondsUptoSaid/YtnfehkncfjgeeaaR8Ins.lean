/- The walks of the reference's site and insert. -/
import Derived.Test.YtnfehkncfjgeeaaOChk
import Derived.Test.YtnfehkncfjgeeaaTRef
import Derived.Test.YtnfehkncfjgeeaaRRef
namespace Go.Proofs.Ytnfehkncfjgeeaa
open Go Go.RowKit

set_option maxRecDepth 100000 in
theorem RSite_any (n : Int) (w : World) : Calls Try.prog 67 #[.int .i64 n] w (BoolPost w (siteB n)) := by
  unfold siteB
  by_cases h1 : 1 ≤ n
  · by_cases h2 : n ≤ 16
    · rw [decide_eq_true ⟨h1, h2⟩]
      go_enter Try.func67, Try.ntmps67
      go_wp2
      go_ret
      exact ⟨rfl, Kept.refl _ _⟩
    · rw [decide_eq_false (by omega)]
      go_enter Try.func67, Try.ntmps67
      go_wp2
      go_ret
      exact ⟨rfl, Kept.refl _ _⟩
  · rw [decide_eq_false (by omega)]
    go_enter Try.func67, Try.ntmps67
    go_wp2
    go_ret
    exact ⟨rfl, Kept.refl _ _⟩
/-- What an insert's walk may call: the text is good (g), has n runes; e is the last identifier; y, y' say whether it and the reference are identifiers; x8: no reference. -/
structure RInsF (it is rt rs : Int) (text : ByteArray) (g : Bool) (n : Nat) (et es : Int) (y y' x8 : Bool) : Prop where
  good : ∀ W, Calls Try.prog 70 #[.string text] W (BoolPost W g)
  cnt : ∀ W, Calls Try.prog 71 #[.string text] W (IntPost W n)
  after : ∀ W, Calls Try.prog 72 #[.agg #[.int .i64 it, .int .i64 is], .int .i64 ((n : Int) - 1)] W (OfPost W (.agg #[.int .i64 et, .int .i64 es]))
  i1 : ∀ W, Calls Try.prog 73 #[.agg #[.int .i64 et, .int .i64 es]] W (BoolPost W y)
  i2 : ∀ W, Calls Try.prog 73 #[.agg #[.int .i64 rt, .int .i64 rs]] W (BoolPost W y')
  q8 : ∀ W, (binOp .eql 42 (.agg #[.int .i64 rt, .int .i64 rs]) (.agg #[.int .i64 0, .int .i64 0])).run Try.prog W = .ok (.bool x8) W
/-- An operation in its box, ahead of whatever is done. -/
structure BK (w : World) (g : Nat) (cs : Array Value) (W : World) : Prop where
  b : Box W g 45 cs
  k : Kept (fun _ => False) w W
theorem BK.fresh {w W W' : World} {g : Nat} {cs : Array Value} (h : BK w g cs W) (hk : Kept (fun _ => False) W W') : BK w g cs W' := ⟨h.b.kept hk id, h.k.trans hk fun _ _ e => e⟩
theorem BK.S {w W : World} {g : Nat} {ds dq kind it is rt rs site : Int} {dl : Nat} {text : ByteArray} {dA gA : Option Addr} {dc gl gc : Nat} (h : BK w g #[.int .i64 ds, .int .i64 dq, .slice dA dl dc, .int .i64 kind, .int .i64 it, .int .i64 is, .int .i64 rt, .int .i64 rs, .string text, .slice gA gl gc, .int .i64 site] W) :
    W.cell? ⟨g, 0, none⟩ = some (.int .i64 ds) ∧ W.cell? ⟨g, 1, none⟩ = some (.int .i64 dq) ∧ W.cell? ⟨g, 2, none⟩ = some (.slice dA dl dc) ∧ W.cell? ⟨g, 3, none⟩ = some (.int .i64 kind) ∧ W.cell? ⟨g, 4, none⟩ = some (.int .i64 it) ∧ W.cell? ⟨g, 5, none⟩ = some (.int .i64 is) ∧
    W.cell? ⟨g, 6, none⟩ = some (.int .i64 rt) ∧ W.cell? ⟨g, 7, none⟩ = some (.int .i64 rs) ∧ W.cell? ⟨g, 8, none⟩ = some (.string text) ∧ W.cell? ⟨g, 9, none⟩ = some (.slice gA gl gc) ∧ W.cell? ⟨g, 10, none⟩ = some (.int .i64 site) :=
  ⟨h.b.cell 0, h.b.cell 1, h.b.cell 2, h.b.cell 3, h.b.cell 4, h.b.cell 5, h.b.cell 6, h.b.cell 7, h.b.cell 8, h.b.cell 9, h.b.cell 10⟩
set_option maxRecDepth 100000 in
set_option maxHeartbeats 3200000 in
theorem rin_1 (ds dq kind it is rt rs site : Int) (dl : Nat) (text : ByteArray) (dA gA : Option Addr) (dc gc gl : Nat) (n : Nat) (et es : Int) (g y y' x8 : Bool) (w : World)
    (_HI : Hid (RInsF it is rt rs text g n et es y y' x8)) (hgl : 0 < gl) :
    Calls Try.prog 68 #[.agg #[.int .i64 ds, .int .i64 dq, .slice dA dl dc, .int .i64 kind, .int .i64 it, .int .i64 is, .int .i64 rt, .int .i64 rs, .string text, .slice gA gl gc, .int .i64 site]] w (BoolPost w false) := by
  have HZ := Lib.hid (show BK w w.heap.size #[.int .i64 ds, .int .i64 dq, .slice dA dl dc, .int .i64 kind, .int .i64 it, .int .i64 is, .int .i64 rt, .int .i64 rs, .string text, .slice gA gl gc, .int .i64 site] (w.alloc (.cells #[.int .i64 ds, .int .i64 dq, .slice dA dl dc, .int .i64 kind, .int .i64 it, .int .i64 is, .int .i64 rt, .int .i64 rs, .string text, .slice gA gl gc, .int .i64 site] 45)) from ⟨Box.new w _ _, (Kept.refl _ _).alloc _⟩)
  go_enter Try.func68, Try.ntmps68
  obtain ⟨c0, c1, c2, c3, c4, c5, c6, c7, c8, c9, c10⟩ := HZ.out.S
  go_wp2
  go_ret
  exact ⟨rfl, HZ.out.k⟩
set_option maxRecDepth 100000 in
set_option maxHeartbeats 3200000 in
theorem rin_2 (ds dq kind it is rt rs site : Int) (dl : Nat) (text : ByteArray) (dA gA : Option Addr) (dc gc : Nat) (n : Nat) (et es : Int) (g y y' x8 : Bool) (w : World)
    (_HI : Hid (RInsF it is rt rs text g n et es y y' x8)) (hsi : site ≠ 0) :
    Calls Try.prog 68 #[.agg #[.int .i64 ds, .int .i64 dq, .slice dA dl dc, .int .i64 kind, .int .i64 it, .int .i64 is, .int .i64 rt, .int .i64 rs, .string text, .slice gA 0 gc, .int .i64 site]] w (BoolPost w false) := by
  have hs' : (site == 0) = false := beq_eq_false_iff_ne.mpr hsi
  have HZ := Lib.hid (show BK w w.heap.size #[.int .i64 ds, .int .i64 dq, .slice dA dl dc, .int .i64 kind, .int .i64 it, .int .i64 is, .int .i64 rt, .int .i64 rs, .string text, .slice gA 0 gc, .int .i64 site] (w.alloc (.cells #[.int .i64 ds, .int .i64 dq, .slice dA dl dc, .int .i64 kind, .int .i64 it, .int .i64 is, .int .i64 rt, .int .i64 rs, .string text, .slice gA 0 gc, .int .i64 site] 45)) from ⟨Box.new w _ _, (Kept.refl _ _).alloc _⟩)
  go_enter Try.func68, Try.ntmps68
  obtain ⟨c0, c1, c2, c3, c4, c5, c6, c7, c8, c9, c10⟩ := HZ.out.S
  go_wp2
  go_ret
  exact ⟨rfl, HZ.out.k⟩
set_option maxRecDepth 100000 in
set_option maxHeartbeats 3200000 in
theorem rin_3 (ds dq kind it is rt rs : Int) (dl : Nat) (text : ByteArray) (dA gA : Option Addr) (dc gc : Nat) (n : Nat) (et es : Int) (g y y' x8 : Bool) (w : World)
    (_HI : Hid (RInsF it is rt rs text g n et es y y' x8)) (h3 : text.toList = []) :
    Calls Try.prog 68 #[.agg #[.int .i64 ds, .int .i64 dq, .slice dA dl dc, .int .i64 kind, .int .i64 it, .int .i64 is, .int .i64 rt, .int .i64 rs, .string text, .slice gA 0 gc, .int .i64 0]] w (BoolPost w false) := by
  have HZ := Lib.hid (show BK w w.heap.size #[.int .i64 ds, .int .i64 dq, .slice dA dl dc, .int .i64 kind, .int .i64 it, .int .i64 is, .int .i64 rt, .int .i64 rs, .string text, .slice gA 0 gc, .int .i64 0] (w.alloc (.cells #[.int .i64 ds, .int .i64 dq, .slice dA dl dc, .int .i64 kind, .int .i64 it, .int .i64 is, .int .i64 rt, .int .i64 rs, .string text, .slice gA 0 gc, .int .i64 0] 45)) from ⟨Box.new w _ _, (Kept.refl _ _).alloc _⟩)
  go_enter Try.func68, Try.ntmps68
  obtain ⟨c0, c1, c2, c3, c4, c5, c6, c7, c8, c9, c10⟩ := HZ.out.S
  go_wp2_with (fail)
  all_goals first | exact absurd h3 ‹¬ text.toList = []› | skip
  go_ret
  exact ⟨rfl, HZ.out.k⟩
set_option maxRecDepth 100000 in
set_option maxHeartbeats 3200000 in
theorem rin_4 (ds dq kind it is rt rs : Int) (dl : Nat) (text : ByteArray) (dA gA : Option Addr) (dc gc : Nat) (n : Nat) (et es : Int) (g y y' x8 : Bool) (w : World)
    (HI : Hid (RInsF it is rt rs text g n et es y y' x8)) (h3 : ¬ text.toList = []) (h4 : g = false) :
    Calls Try.prog 68 #[.agg #[.int .i64 ds, .int .i64 dq, .slice dA dl dc, .int .i64 kind, .int .i64 it, .int .i64 is, .int .i64 rt, .int .i64 rs, .string text, .slice gA 0 gc, .int .i64 0]] w (BoolPost w false) := by
  subst h4
  have HZ := Lib.hid (show BK w w.heap.size #[.int .i64 ds, .int .i64 dq, .slice dA dl dc, .int .i64 kind, .int .i64 it, .int .i64 is, .int .i64 rt, .int .i64 rs, .string text, .slice gA 0 gc, .int .i64 0] (w.alloc (.cells #[.int .i64 ds, .int .i64 dq, .slice dA dl dc, .int .i64 kind, .int .i64 it, .int .i64 is, .int .i64 rt, .int .i64 rs, .string text, .slice gA 0 gc, .int .i64 0] 45)) from ⟨Box.new w _ _, (Kept.refl _ _).alloc _⟩)
  go_enter Try.func68, Try.ntmps68
  obtain ⟨c0, c1, c2, c3, c4, c5, c6, c7, c8, c9, c10⟩ := HZ.out.S
  go_wp2_with (fail)
  all_goals first | exact absurd ‹text.toList = []› h3 | exact absurd (List.isEmpty_iff.1 ‹text.toList.isEmpty = true›) h3 | skip
  refine (HI.out.good _).mono ?_
  unfold BoolPost
  rintro e w1 ⟨rfl, hk⟩
  have HZ1 := Lib.hid (HZ.out.fresh hk)
  clear hk HZ c0 c1 c2 c3 c4 c5 c6 c7 c8 c9 c10
  obtain ⟨c0, c1, c2, c3, c4, c5, c6, c7, c8, c9, c10⟩ := HZ1.out.S
  go_wp2
  go_ret
  exact ⟨rfl, HZ1.out.k⟩
set_option maxRecDepth 100000 in
set_option maxHeartbeats 3200000 in
theorem rin_5 (ds dq kind it is rt rs : Int) (dl : Nat) (text : ByteArray) (dA gA : Option Addr) (dc gc : Nat) (n : Nat) (et es : Int) (g y y' x8 : Bool) (w : World)
    (HI : Hid (RInsF it is rt rs text g n et es y y' x8)) (hn0 : 0 < n) (hnn : n ≤ 1000000) (h3 : ¬ text.toList = []) (h4 : g = true) (h5 : 1024 < n) :
    Calls Try.prog 68 #[.agg #[.int .i64 ds, .int .i64 dq, .slice dA dl dc, .int .i64 kind, .int .i64 it, .int .i64 is, .int .i64 rt, .int .i64 rs, .string text, .slice gA 0 gc, .int .i64 0]] w (BoolPost w false) := by
  subst h4
  have hwr : IntKind.i64.wrap ((n : Int) - 1) = (n : Int) - 1 := IntWalk.i64_in _ ⟨by omega, by omega⟩
  have HZ := Lib.hid (show BK w w.heap.size #[.int .i64 ds, .int .i64 dq, .slice dA dl dc, .int .i64 kind, .int .i64 it, .int .i64 is, .int .i64 rt, .int .i64 rs, .string text, .slice gA 0 gc, .int .i64 0] (w.alloc (.cells #[.int .i64 ds, .int .i64 dq, .slice dA dl dc, .int .i64 kind, .int .i64 it, .int .i64 is, .int .i64 rt, .int .i64 rs, .string text, .slice gA 0 gc, .int .i64 0] 45)) from ⟨Box.new w _ _, (Kept.refl _ _).alloc _⟩)
  go_enter Try.func68, Try.ntmps68
  obtain ⟨c0, c1, c2, c3, c4, c5, c6, c7, c8, c9, c10⟩ := HZ.out.S
  go_wp2_with (fail)
  all_goals first | exact absurd ‹text.toList = []› h3 | exact absurd (List.isEmpty_iff.1 ‹text.toList.isEmpty = true›) h3 | skip
  refine (HI.out.good _).mono ?_
  unfold BoolPost
  rintro e w1 ⟨rfl, hk⟩
  have HZ1 := Lib.hid (HZ.out.fresh hk)
  clear hk HZ c0 c1 c2 c3 c4 c5 c6 c7 c8 c9 c10
  obtain ⟨c0, c1, c2, c3, c4, c5, c6, c7, c8, c9, c10⟩ := HZ1.out.S
  go_wp2_with (fail)
  all_goals first | exact absurd ‹text.toList = []› h3 | exact absurd (List.isEmpty_iff.1 ‹text.toList.isEmpty = true›) h3 | skip
  refine (HI.out.cnt _).mono ?_
  unfold IntPost
  rintro e w2 ⟨rfl, hk⟩
  have HZ2 := Lib.hid (HZ1.out.fresh hk)
  clear hk HZ1 c0 c1 c2 c3 c4 c5 c6 c7 c8 c9 c10
  obtain ⟨c0, c1, c2, c3, c4, c5, c6, c7, c8, c9, c10⟩ := HZ2.out.S
  go_wp2_with (fail)
  refine (HI.out.after _).mono ?_
  unfold OfPost
  rintro e w3 ⟨rfl, hk⟩
  have HZ3 := Lib.hid ((HZ2.out.fresh hk).fresh ((Kept.refl _ _).alloc (.cells #[.int .i64 et, .int .i64 es] 42)))
  have l0 := (Box.new w3 42 #[.int .i64 et, .int .i64 es]).cell 0
  have l1 := (Box.new w3 42 #[.int .i64 et, .int .i64 es]).cell 1
  simp only [List.getElem?_toArray, List.getElem?_cons_succ, List.getElem?_cons_zero] at l0 l1
  clear hk HZ2 c0 c1 c2 c3 c4 c5 c6 c7 c8 c9 c10
  obtain ⟨c0, c1, c2, c3, c4, c5, c6, c7, c8, c9, c10⟩ := HZ3.out.S
  go_wp2
  go_ret
  exact ⟨rfl, HZ3.out.k⟩
set_option maxRecDepth 100000 in
set_option maxHeartbeats 3200000 in
theorem rin_6 (ds dq kind it is rt rs : Int) (dl : Nat) (text : ByteArray) (dA gA : Option Addr) (dc gc : Nat) (n : Nat) (et es : Int) (g y y' x8 : Bool) (w : World)
    (HI : Hid (RInsF it is rt rs text g n et es y y' x8)) (hn0 : 0 < n) (hnn : n ≤ 1000000) (h3 : ¬ text.toList = []) (h4 : g = true) (h5 : n ≤ 1024) (h6 : is ≠ ds) :
    Calls Try.prog 68 #[.agg #[.int .i64 ds, .int .i64 dq, .slice dA dl dc, .int .i64 kind, .int .i64 it, .int .i64 is, .int .i64 rt, .int .i64 rs, .string text, .slice gA 0 gc, .int .i64 0]] w (BoolPost w false) := by
  subst h4
  have h6' : (is == ds) = false := beq_eq_false_iff_ne.mpr h6
  have hwr : IntKind.i64.wrap ((n : Int) - 1) = (n : Int) - 1 := IntWalk.i64_in _ ⟨by omega, by omega⟩
  have HZ := Lib.hid (show BK w w.heap.size #[.int .i64 ds, .int .i64 dq, .slice dA dl dc, .int .i64 kind, .int .i64 it, .int .i64 is, .int .i64 rt, .int .i64 rs, .string text, .slice gA 0 gc, .int .i64 0] (w.alloc (.cells #[.int .i64 ds, .int .i64 dq, .slice dA dl dc, .int .i64 kind, .int .i64 it, .int .i64 is, .int .i64 rt, .int .i64 rs, .string text, .slice gA 0 gc, .int .i64 0] 45)) from ⟨Box.new w _ _, (Kept.refl _ _).alloc _⟩)
  go_enter Try.func68, Try.ntmps68
  obtain ⟨c0, c1, c2, c3, c4, c5, c6, c7, c8, c9, c10⟩ := HZ.out.S
  go_wp2_with (fail)
  all_goals first | exact absurd ‹text.toList = []› h3 | exact absurd (List.isEmpty_iff.1 ‹text.toList.isEmpty = true›) h3 | skip
  refine (HI.out.good _).mono ?_
  unfold BoolPost
  rintro e w1 ⟨rfl, hk⟩
  have HZ1 := Lib.hid (HZ.out.fresh hk)
  clear hk HZ c0 c1 c2 c3 c4 c5 c6 c7 c8 c9 c10
  obtain ⟨c0, c1, c2, c3, c4, c5, c6, c7, c8, c9, c10⟩ := HZ1.out.S
  go_wp2_with (fail)
  all_goals first | exact absurd ‹text.toList = []› h3 | exact absurd (List.isEmpty_iff.1 ‹text.toList.isEmpty = true›) h3 | skip
  refine (HI.out.cnt _).mono ?_
  unfold IntPost
  rintro e w2 ⟨rfl, hk⟩
  have HZ2 := Lib.hid (HZ1.out.fresh hk)
  clear hk HZ1 c0 c1 c2 c3 c4 c5 c6 c7 c8 c9 c10
  obtain ⟨c0, c1, c2, c3, c4, c5, c6, c7, c8, c9, c10⟩ := HZ2.out.S
  go_wp2_with (fail)
  refine (HI.out.after _).mono ?_
  unfold OfPost
  rintro e w3 ⟨rfl, hk⟩
  have HZ3 := Lib.hid ((HZ2.out.fresh hk).fresh ((Kept.refl _ _).alloc (.cells #[.int .i64 et, .int .i64 es] 42)))
  have l0 := (Box.new w3 42 #[.int .i64 et, .int .i64 es]).cell 0
  have l1 := (Box.new w3 42 #[.int .i64 et, .int .i64 es]).cell 1
  simp only [List.getElem?_toArray, List.getElem?_cons_succ, List.getElem?_cons_zero] at l0 l1
  clear hk HZ2 c0 c1 c2 c3 c4 c5 c6 c7 c8 c9 c10
  obtain ⟨c0, c1, c2, c3, c4, c5, c6, c7, c8, c9, c10⟩ := HZ3.out.S
  go_wp2
  go_ret
  exact ⟨rfl, HZ3.out.k⟩
set_option maxRecDepth 100000 in
set_option maxHeartbeats 3200000 in
theorem rin_7 (ds dq kind it is rt rs : Int) (dl : Nat) (text : ByteArray) (dA gA : Option Addr) (dc gc : Nat) (n : Nat) (et es : Int) (g y y' x8 : Bool) (w : World)
    (HI : Hid (RInsF it is rt rs text g n et es y y' x8)) (hn0 : 0 < n) (hnn : n ≤ 1000000) (h3 : ¬ text.toList = []) (h4 : g = true) (h5 : n ≤ 1024) (h6 : is = ds) (h7 : y = false) :
    Calls Try.prog 68 #[.agg #[.int .i64 ds, .int .i64 dq, .slice dA dl dc, .int .i64 kind, .int .i64 it, .int .i64 is, .int .i64 rt, .int .i64 rs, .string text, .slice gA 0 gc, .int .i64 0]] w (BoolPost w false) := by
  subst h4
  have h6' : (is == ds) = true := by rw [h6]; exact beq_self_eq_true ds
  clear h6
  subst h7
  have hwr : IntKind.i64.wrap ((n : Int) - 1) = (n : Int) - 1 := IntWalk.i64_in _ ⟨by omega, by omega⟩
  have HZ := Lib.hid (show BK w w.heap.size #[.int .i64 ds, .int .i64 dq, .slice dA dl dc, .int .i64 kind, .int .i64 it, .int .i64 is, .int .i64 rt, .int .i64 rs, .string text, .slice gA 0 gc, .int .i64 0] (w.alloc (.cells #[.int .i64 ds, .int .i64 dq, .slice dA dl dc, .int .i64 kind, .int .i64 it, .int .i64 is, .int .i64 rt, .int .i64 rs, .string text, .slice gA 0 gc, .int .i64 0] 45)) from ⟨Box.new w _ _, (Kept.refl _ _).alloc _⟩)
  go_enter Try.func68, Try.ntmps68
  obtain ⟨c0, c1, c2, c3, c4, c5, c6, c7, c8, c9, c10⟩ := HZ.out.S
  go_wp2_with (fail)
  all_goals first | exact absurd ‹text.toList = []› h3 | exact absurd (List.isEmpty_iff.1 ‹text.toList.isEmpty = true›) h3 | skip
  refine (HI.out.good _).mono ?_
  unfold BoolPost
  rintro e w1 ⟨rfl, hk⟩
  have HZ1 := Lib.hid (HZ.out.fresh hk)
  clear hk HZ c0 c1 c2 c3 c4 c5 c6 c7 c8 c9 c10
  obtain ⟨c0, c1, c2, c3, c4, c5, c6, c7, c8, c9, c10⟩ := HZ1.out.S
  go_wp2_with (fail)
  all_goals first | exact absurd ‹text.toList = []› h3 | exact absurd (List.isEmpty_iff.1 ‹text.toList.isEmpty = true›) h3 | skip
  refine (HI.out.cnt _).mono ?_
  unfold IntPost
  rintro e w2 ⟨rfl, hk⟩
  have HZ2 := Lib.hid (HZ1.out.fresh hk)
  clear hk HZ1 c0 c1 c2 c3 c4 c5 c6 c7 c8 c9 c10
  obtain ⟨c0, c1, c2, c3, c4, c5, c6, c7, c8, c9, c10⟩ := HZ2.out.S
  go_wp2_with (fail)
  refine (HI.out.after _).mono ?_
  unfold OfPost
  rintro e w3 ⟨rfl, hk⟩
  have HZ3 := Lib.hid ((HZ2.out.fresh hk).fresh ((Kept.refl _ _).alloc (.cells #[.int .i64 et, .int .i64 es] 42)))
  have l0 := (Box.new w3 42 #[.int .i64 et, .int .i64 es]).cell 0
  have l1 := (Box.new w3 42 #[.int .i64 et, .int .i64 es]).cell 1
  simp only [List.getElem?_toArray, List.getElem?_cons_succ, List.getElem?_cons_zero] at l0 l1
  clear hk HZ2 c0 c1 c2 c3 c4 c5 c6 c7 c8 c9 c10
  obtain ⟨c0, c1, c2, c3, c4, c5, c6, c7, c8, c9, c10⟩ := HZ3.out.S
  go_wp2_with (fail)
  refine (HI.out.i1 _).mono ?_
  unfold BoolPost
  rintro e w4 ⟨rfl, hk⟩
  have HZ4 := Lib.hid (HZ3.out.fresh hk)
  clear hk HZ3 c0 c1 c2 c3 c4 c5 c6 c7 c8 c9 c10
  obtain ⟨c0, c1, c2, c3, c4, c5, c6, c7, c8, c9, c10⟩ := HZ4.out.S
  go_wp2
  go_ret
  exact ⟨rfl, HZ4.out.k⟩
set_option maxRecDepth 100000 in
set_option maxHeartbeats 3200000 in
theorem rin_8 (ds dq kind it is rt rs : Int) (dl : Nat) (text : ByteArray) (dA gA : Option Addr) (dc gc : Nat) (n : Nat) (et es : Int) (g y y' x8 : Bool) (w : World)
    (HI : Hid (RInsF it is rt rs text g n et es y y' x8)) (hn0 : 0 < n) (hnn : n ≤ 1000000) (h3 : ¬ text.toList = []) (h4 : g = true) (h5 : n ≤ 1024) (h6 : is = ds) (h7 : y = true) (h8 : x8 = false) (h9 : y' = false) :
    Calls Try.prog 68 #[.agg #[.int .i64 ds, .int .i64 dq, .slice dA dl dc, .int .i64 kind, .int .i64 it, .int .i64 is, .int .i64 rt, .int .i64 rs, .string text, .slice gA 0 gc, .int .i64 0]] w (BoolPost w false) := by
  subst h4
  have h6' : (is == ds) = true := by rw [h6]; exact beq_self_eq_true ds
  clear h6
  subst h7
  have q8 := HI.out.q8
  rw [h8] at q8
  clear h8
  subst h9
  have hwr : IntKind.i64.wrap ((n : Int) - 1) = (n : Int) - 1 := IntWalk.i64_in _ ⟨by omega, by omega⟩
  have HZ := Lib.hid (show BK w w.heap.size #[.int .i64 ds, .int .i64 dq, .slice dA dl dc, .int .i64 kind, .int .i64 it, .int .i64 is, .int .i64 rt, .int .i64 rs, .string text, .slice gA 0 gc, .int .i64 0] (w.alloc (.cells #[.int .i64 ds, .int .i64 dq, .slice dA dl dc, .int .i64 kind, .int .i64 it, .int .i64 is, .int .i64 rt, .int .i64 rs, .string text, .slice gA 0 gc, .int .i64 0] 45)) from ⟨Box.new w _ _, (Kept.refl _ _).alloc _⟩)
  go_enter Try.func68, Try.ntmps68
  obtain ⟨c0, c1, c2, c3, c4, c5, c6, c7, c8, c9, c10⟩ := HZ.out.S
  go_wp2_with (fail)
  all_goals first | exact absurd ‹text.toList = []› h3 | exact absurd (List.isEmpty_iff.1 ‹text.toList.isEmpty = true›) h3 | skip
  refine (HI.out.good _).mono ?_
  unfold BoolPost
  rintro e w1 ⟨rfl, hk⟩
  have HZ1 := Lib.hid (HZ.out.fresh hk)
  clear hk HZ c0 c1 c2 c3 c4 c5 c6 c7 c8 c9 c10
  obtain ⟨c0, c1, c2, c3, c4, c5, c6, c7, c8, c9, c10⟩ := HZ1.out.S
  go_wp2_with (fail)
  all_goals first | exact absurd ‹text.toList = []› h3 | exact absurd (List.isEmpty_iff.1 ‹text.toList.isEmpty = true›) h3 | skip
  refine (HI.out.cnt _).mono ?_
  unfold IntPost
  rintro e w2 ⟨rfl, hk⟩
  have HZ2 := Lib.hid (HZ1.out.fresh hk)
  clear hk HZ1 c0 c1 c2 c3 c4 c5 c6 c7 c8 c9 c10
  obtain ⟨c0, c1, c2, c3, c4, c5, c6, c7, c8, c9, c10⟩ := HZ2.out.S
  go_wp2_with (fail)
  refine (HI.out.after _).mono ?_
  unfold OfPost
  rintro e w3 ⟨rfl, hk⟩
  have HZ3 := Lib.hid ((HZ2.out.fresh hk).fresh ((Kept.refl _ _).alloc (.cells #[.int .i64 et, .int .i64 es] 42)))
  have l0 := (Box.new w3 42 #[.int .i64 et, .int .i64 es]).cell 0
  have l1 := (Box.new w3 42 #[.int .i64 et, .int .i64 es]).cell 1
  simp only [List.getElem?_toArray, List.getElem?_cons_succ, List.getElem?_cons_zero] at l0 l1
  clear hk HZ2 c0 c1 c2 c3 c4 c5 c6 c7 c8 c9 c10
  obtain ⟨c0, c1, c2, c3, c4, c5, c6, c7, c8, c9, c10⟩ := HZ3.out.S
  go_wp2_with (fail)
  refine (HI.out.i1 _).mono ?_
  unfold BoolPost
  rintro e w4 ⟨rfl, hk⟩
  have HZ4 := Lib.hid (HZ3.out.fresh hk)
  clear hk HZ3 c0 c1 c2 c3 c4 c5 c6 c7 c8 c9 c10
  obtain ⟨c0, c1, c2, c3, c4, c5, c6, c7, c8, c9, c10⟩ := HZ4.out.S
  go_wp2_with (fail)
  refine (HI.out.i2 _).mono ?_
  unfold BoolPost
  rintro e w5 ⟨rfl, hk⟩
  have HZ5 := Lib.hid (HZ4.out.fresh hk)
  clear hk HZ4 c0 c1 c2 c3 c4 c5 c6 c7 c8 c9 c10
  obtain ⟨c0, c1, c2, c3, c4, c5, c6, c7, c8, c9, c10⟩ := HZ5.out.S
  go_wp2
  go_ret
  exact ⟨rfl, HZ5.out.k⟩
set_option maxRecDepth 100000 in
set_option maxHeartbeats 3200000 in
theorem rin_9 (ds dq kind it is rt rs : Int) (dl : Nat) (text : ByteArray) (dA gA : Option Addr) (dc gc : Nat) (n : Nat) (et es : Int) (g y y' x8 : Bool) (w : World)
    (HI : Hid (RInsF it is rt rs text g n et es y y' x8)) (hn0 : 0 < n) (hnn : n ≤ 1000000) (h3 : ¬ text.toList = []) (h4 : g = true) (h5 : n ≤ 1024) (h6 : is = ds) (h7 : y = true) (h8 : x8 = true) (h10 : it ≤ rt) :
    Calls Try.prog 68 #[.agg #[.int .i64 ds, .int .i64 dq, .slice dA dl dc, .int .i64 kind, .int .i64 it, .int .i64 is, .int .i64 rt, .int .i64 rs, .string text, .slice gA 0 gc, .int .i64 0]] w (BoolPost w false) := by
  subst h4
  have h6' : (is == ds) = true := by rw [h6]; exact beq_self_eq_true ds
  clear h6
  subst h7
  have q8 := HI.out.q8
  rw [h8] at q8
  clear h8
  have hd : decide (rt < it) = false := decide_eq_false (Int.not_lt.2 h10)
  have hwr : IntKind.i64.wrap ((n : Int) - 1) = (n : Int) - 1 := IntWalk.i64_in _ ⟨by omega, by omega⟩
  have HZ := Lib.hid (show BK w w.heap.size #[.int .i64 ds, .int .i64 dq, .slice dA dl dc, .int .i64 kind, .int .i64 it, .int .i64 is, .int .i64 rt, .int .i64 rs, .string text, .slice gA 0 gc, .int .i64 0] (w.alloc (.cells #[.int .i64 ds, .int .i64 dq, .slice dA dl dc, .int .i64 kind, .int .i64 it, .int .i64 is, .int .i64 rt, .int .i64 rs, .string text, .slice gA 0 gc, .int .i64 0] 45)) from ⟨Box.new w _ _, (Kept.refl _ _).alloc _⟩)
  go_enter Try.func68, Try.ntmps68
  obtain ⟨c0, c1, c2, c3, c4, c5, c6, c7, c8, c9, c10⟩ := HZ.out.S
  go_wp2_with (fail)
  all_goals first | exact absurd ‹text.toList = []› h3 | exact absurd (List.isEmpty_iff.1 ‹text.toList.isEmpty = true›) h3 | skip
  refine (HI.out.good _).mono ?_
  unfold BoolPost
  rintro e w1 ⟨rfl, hk⟩
  have HZ1 := Lib.hid (HZ.out.fresh hk)
  clear hk HZ c0 c1 c2 c3 c4 c5 c6 c7 c8 c9 c10
  obtain ⟨c0, c1, c2, c3, c4, c5, c6, c7, c8, c9, c10⟩ := HZ1.out.S
  go_wp2_with (fail)
  all_goals first | exact absurd ‹text.toList = []› h3 | exact absurd (List.isEmpty_iff.1 ‹text.toList.isEmpty = true›) h3 | skip
  refine (HI.out.cnt _).mono ?_
  unfold IntPost
  rintro e w2 ⟨rfl, hk⟩
  have HZ2 := Lib.hid (HZ1.out.fresh hk)
  clear hk HZ1 c0 c1 c2 c3 c4 c5 c6 c7 c8 c9 c10
  obtain ⟨c0, c1, c2, c3, c4, c5, c6, c7, c8, c9, c10⟩ := HZ2.out.S
  go_wp2_with (fail)
  refine (HI.out.after _).mono ?_
  unfold OfPost
  rintro e w3 ⟨rfl, hk⟩
  have HZ3 := Lib.hid ((HZ2.out.fresh hk).fresh ((Kept.refl _ _).alloc (.cells #[.int .i64 et, .int .i64 es] 42)))
  have l0 := (Box.new w3 42 #[.int .i64 et, .int .i64 es]).cell 0
  have l1 := (Box.new w3 42 #[.int .i64 et, .int .i64 es]).cell 1
  simp only [List.getElem?_toArray, List.getElem?_cons_succ, List.getElem?_cons_zero] at l0 l1
  clear hk HZ2 c0 c1 c2 c3 c4 c5 c6 c7 c8 c9 c10
  obtain ⟨c0, c1, c2, c3, c4, c5, c6, c7, c8, c9, c10⟩ := HZ3.out.S
  go_wp2_with (fail)
  refine (HI.out.i1 _).mono ?_
  unfold BoolPost
  rintro e w4 ⟨rfl, hk⟩
  have HZ4 := Lib.hid (HZ3.out.fresh hk)
  clear hk HZ3 c0 c1 c2 c3 c4 c5 c6 c7 c8 c9 c10
  obtain ⟨c0, c1, c2, c3, c4, c5, c6, c7, c8, c9, c10⟩ := HZ4.out.S
  go_wp2
  go_ret
  exact ⟨rfl, HZ4.out.k⟩
set_option maxRecDepth 100000 in
set_option maxHeartbeats 3200000 in
theorem rin_10 (ds dq kind it is rt rs : Int) (dl : Nat) (text : ByteArray) (dA gA : Option Addr) (dc gc : Nat) (n : Nat) (et es : Int) (g y y' x8 : Bool) (w : World)
    (HI : Hid (RInsF it is rt rs text g n et es y y' x8)) (hn0 : 0 < n) (hnn : n ≤ 1000000) (h3 : ¬ text.toList = []) (h4 : g = true) (h5 : n ≤ 1024) (h6 : is = ds) (h7 : y = true) (h8 : x8 = false) (h9 : y' = true) (h10 : it ≤ rt) :
    Calls Try.prog 68 #[.agg #[.int .i64 ds, .int .i64 dq, .slice dA dl dc, .int .i64 kind, .int .i64 it, .int .i64 is, .int .i64 rt, .int .i64 rs, .string text, .slice gA 0 gc, .int .i64 0]] w (BoolPost w false) := by
  subst h4
  have h6' : (is == ds) = true := by rw [h6]; exact beq_self_eq_true ds
  clear h6
  subst h7
  have q8 := HI.out.q8
  rw [h8] at q8
  clear h8
  subst h9
  have hd : decide (rt < it) = false := decide_eq_false (Int.not_lt.2 h10)
  have hwr : IntKind.i64.wrap ((n : Int) - 1) = (n : Int) - 1 := IntWalk.i64_in _ ⟨by omega, by omega⟩
  have HZ := Lib.hid (show BK w w.heap.size #[.int .i64 ds, .int .i64 dq, .slice dA dl dc, .int .i64 kind, .int .i64 it, .int .i64 is, .int .i64 rt, .int .i64 rs, .string text, .slice gA 0 gc, .int .i64 0] (w.alloc (.cells #[.int .i64 ds, .int .i64 dq, .slice dA dl dc, .int .i64 kind, .int .i64 it, .int .i64 is, .int .i64 rt, .int .i64 rs, .string text, .slice gA 0 gc, .int .i64 0] 45)) from ⟨Box.new w _ _, (Kept.refl _ _).alloc _⟩)
  go_enter Try.func68, Try.ntmps68
  obtain ⟨c0, c1, c2, c3, c4, c5, c6, c7, c8, c9, c10⟩ := HZ.out.S
  go_wp2_with (fail)
  all_goals first | exact absurd ‹text.toList = []› h3 | exact absurd (List.isEmpty_iff.1 ‹text.toList.isEmpty = true›) h3 | skip
  refine (HI.out.good _).mono ?_
  unfold BoolPost
  rintro e w1 ⟨rfl, hk⟩
  have HZ1 := Lib.hid (HZ.out.fresh hk)
  clear hk HZ c0 c1 c2 c3 c4 c5 c6 c7 c8 c9 c10
  obtain ⟨c0, c1, c2, c3, c4, c5, c6, c7, c8, c9, c10⟩ := HZ1.out.S
  go_wp2_with (fail)
  all_goals first | exact absurd ‹text.toList = []› h3 | exact absurd (List.isEmpty_iff.1 ‹text.toList.isEmpty = true›) h3 | skip
  refine (HI.out.cnt _).mono ?_
  unfold IntPost
  rintro e w2 ⟨rfl, hk⟩
  have HZ2 := Lib.hid (HZ1.out.fresh hk)
  clear hk HZ1 c0 c1 c2 c3 c4 c5 c6 c7 c8 c9 c10
  obtain ⟨c0, c1, c2, c3, c4, c5, c6, c7, c8, c9, c10⟩ := HZ2.out.S
  go_wp2_with (fail)
  refine (HI.out.after _).mono ?_
  unfold OfPost
  rintro e w3 ⟨rfl, hk⟩
  have HZ3 := Lib.hid ((HZ2.out.fresh hk).fresh ((Kept.refl _ _).alloc (.cells #[.int .i64 et, .int .i64 es] 42)))
  have l0 := (Box.new w3 42 #[.int .i64 et, .int .i64 es]).cell 0
  have l1 := (Box.new w3 42 #[.int .i64 et, .int .i64 es]).cell 1
  simp only [List.getElem?_toArray, List.getElem?_cons_succ, List.getElem?_cons_zero] at l0 l1
  clear hk HZ2 c0 c1 c2 c3 c4 c5 c6 c7 c8 c9 c10
  obtain ⟨c0, c1, c2, c3, c4, c5, c6, c7, c8, c9, c10⟩ := HZ3.out.S
  go_wp2_with (fail)
  refine (HI.out.i1 _).mono ?_
  unfold BoolPost
  rintro e w4 ⟨rfl, hk⟩
  have HZ4 := Lib.hid (HZ3.out.fresh hk)
  clear hk HZ3 c0 c1 c2 c3 c4 c5 c6 c7 c8 c9 c10
  obtain ⟨c0, c1, c2, c3, c4, c5, c6, c7, c8, c9, c10⟩ := HZ4.out.S
  go_wp2_with (fail)
  refine (HI.out.i2 _).mono ?_
  unfold BoolPost
  rintro e w5 ⟨rfl, hk⟩
  have HZ5 := Lib.hid (HZ4.out.fresh hk)
  clear hk HZ4 c0 c1 c2 c3 c4 c5 c6 c7 c8 c9 c10
  obtain ⟨c0, c1, c2, c3, c4, c5, c6, c7, c8, c9, c10⟩ := HZ5.out.S
  go_wp2
  go_ret
  exact ⟨rfl, HZ5.out.k⟩
set_option maxRecDepth 100000 in
set_option maxHeartbeats 3200000 in
theorem rin_11 (ds dq kind it is rt rs : Int) (dl : Nat) (text : ByteArray) (dA gA : Option Addr) (dc gc : Nat) (n : Nat) (et es : Int) (g y y' x8 : Bool) (w : World)
    (HI : Hid (RInsF it is rt rs text g n et es y y' x8)) (hn0 : 0 < n) (hnn : n ≤ 1000000) (h3 : ¬ text.toList = []) (h4 : g = true) (h5 : n ≤ 1024) (h6 : is = ds) (h7 : y = true) (h8 : x8 = true) (h10 : rt < it) :
    Calls Try.prog 68 #[.agg #[.int .i64 ds, .int .i64 dq, .slice dA dl dc, .int .i64 kind, .int .i64 it, .int .i64 is, .int .i64 rt, .int .i64 rs, .string text, .slice gA 0 gc, .int .i64 0]] w (BoolPost w true) := by
  subst h4
  have h6' : (is == ds) = true := by rw [h6]; exact beq_self_eq_true ds
  clear h6
  subst h7
  have q8 := HI.out.q8
  rw [h8] at q8
  clear h8
  have hd : decide (rt < it) = true := decide_eq_true h10
  have hwr : IntKind.i64.wrap ((n : Int) - 1) = (n : Int) - 1 := IntWalk.i64_in _ ⟨by omega, by omega⟩
  have HZ := Lib.hid (show BK w w.heap.size #[.int .i64 ds, .int .i64 dq, .slice dA dl dc, .int .i64 kind, .int .i64 it, .int .i64 is, .int .i64 rt, .int .i64 rs, .string text, .slice gA 0 gc, .int .i64 0] (w.alloc (.cells #[.int .i64 ds, .int .i64 dq, .slice dA dl dc, .int .i64 kind, .int .i64 it, .int .i64 is, .int .i64 rt, .int .i64 rs, .string text, .slice gA 0 gc, .int .i64 0] 45)) from ⟨Box.new w _ _, (Kept.refl _ _).alloc _⟩)
  go_enter Try.func68, Try.ntmps68
  obtain ⟨c0, c1, c2, c3, c4, c5, c6, c7, c8, c9, c10⟩ := HZ.out.S
  go_wp2_with (fail)
  all_goals first | exact absurd ‹text.toList = []› h3 | exact absurd (List.isEmpty_iff.1 ‹text.toList.isEmpty = true›) h3 | skip
  refine (HI.out.good _).mono ?_
  unfold BoolPost
  rintro e w1 ⟨rfl, hk⟩
  have HZ1 := Lib.hid (HZ.out.fresh hk)
  clear hk HZ c0 c1 c2 c3 c4 c5 c6 c7 c8 c9 c10
  obtain ⟨c0, c1, c2, c3, c4, c5, c6, c7, c8, c9, c10⟩ := HZ1.out.S
  go_wp2_with (fail)
  all_goals first | exact absurd ‹text.toList = []› h3 | exact absurd (List.isEmpty_iff.1 ‹text.toList.isEmpty = true›) h3 | skip
  refine (HI.out.cnt _).mono ?_
  unfold IntPost
  rintro e w2 ⟨rfl, hk⟩
  have HZ2 := Lib.hid (HZ1.out.fresh hk)
  clear hk HZ1 c0 c1 c2 c3 c4 c5 c6 c7 c8 c9 c10
  obtain ⟨c0, c1, c2, c3, c4, c5, c6, c7, c8, c9, c10⟩ := HZ2.out.S
  go_wp2_with (fail)
  refine (HI.out.after _).mono ?_
  unfold OfPost
  rintro e w3 ⟨rfl, hk⟩
  have HZ3 := Lib.hid ((HZ2.out.fresh hk).fresh ((Kept.refl _ _).alloc (.cells #[.int .i64 et, .int .i64 es] 42)))
  have l0 := (Box.new w3 42 #[.int .i64 et, .int .i64 es]).cell 0
  have l1 := (Box.new w3 42 #[.int .i64 et, .int .i64 es]).cell 1
  simp only [List.getElem?_toArray, List.getElem?_cons_succ, List.getElem?_cons_zero] at l0 l1
  clear hk HZ2 c0 c1 c2 c3 c4 c5 c6 c7 c8 c9 c10
  obtain ⟨c0, c1, c2, c3, c4, c5, c6, c7, c8, c9, c10⟩ := HZ3.out.S
  go_wp2_with (fail)
  refine (HI.out.i1 _).mono ?_
  unfold BoolPost
  rintro e w4 ⟨rfl, hk⟩
  have HZ4 := Lib.hid (HZ3.out.fresh hk)
  clear hk HZ3 c0 c1 c2 c3 c4 c5 c6 c7 c8 c9 c10
  obtain ⟨c0, c1, c2, c3, c4, c5, c6, c7, c8, c9, c10⟩ := HZ4.out.S
  go_wp2
  go_ret
  exact ⟨rfl, HZ4.out.k⟩
set_option maxRecDepth 100000 in
set_option maxHeartbeats 3200000 in
theorem rin_12 (ds dq kind it is rt rs : Int) (dl : Nat) (text : ByteArray) (dA gA : Option Addr) (dc gc : Nat) (n : Nat) (et es : Int) (g y y' x8 : Bool) (w : World)
    (HI : Hid (RInsF it is rt rs text g n et es y y' x8)) (hn0 : 0 < n) (hnn : n ≤ 1000000) (h3 : ¬ text.toList = []) (h4 : g = true) (h5 : n ≤ 1024) (h6 : is = ds) (h7 : y = true) (h8 : x8 = false) (h9 : y' = true) (h10 : rt < it) :
    Calls Try.prog 68 #[.agg #[.int .i64 ds, .int .i64 dq, .slice dA dl dc, .int .i64 kind, .int .i64 it, .int .i64 is, .int .i64 rt, .int .i64 rs, .string text, .slice gA 0 gc, .int .i64 0]] w (BoolPost w true) := by
  subst h4
  have h6' : (is == ds) = true := by rw [h6]; exact beq_self_eq_true ds
  clear h6
  subst h7
  have q8 := HI.out.q8
  rw [h8] at q8
  clear h8
  subst h9
  have hd : decide (rt < it) = true := decide_eq_true h10
  have hwr : IntKind.i64.wrap ((n : Int) - 1) = (n : Int) - 1 := IntWalk.i64_in _ ⟨by omega, by omega⟩
  have HZ := Lib.hid (show BK w w.heap.size #[.int .i64 ds, .int .i64 dq, .slice dA dl dc, .int .i64 kind, .int .i64 it, .int .i64 is, .int .i64 rt, .int .i64 rs, .string text, .slice gA 0 gc, .int .i64 0] (w.alloc (.cells #[.int .i64 ds, .int .i64 dq, .slice dA dl dc, .int .i64 kind, .int .i64 it, .int .i64 is, .int .i64 rt, .int .i64 rs, .string text, .slice gA 0 gc, .int .i64 0] 45)) from ⟨Box.new w _ _, (Kept.refl _ _).alloc _⟩)
  go_enter Try.func68, Try.ntmps68
  obtain ⟨c0, c1, c2, c3, c4, c5, c6, c7, c8, c9, c10⟩ := HZ.out.S
  go_wp2_with (fail)
  all_goals first | exact absurd ‹text.toList = []› h3 | exact absurd (List.isEmpty_iff.1 ‹text.toList.isEmpty = true›) h3 | skip
  refine (HI.out.good _).mono ?_
  unfold BoolPost
  rintro e w1 ⟨rfl, hk⟩
  have HZ1 := Lib.hid (HZ.out.fresh hk)
  clear hk HZ c0 c1 c2 c3 c4 c5 c6 c7 c8 c9 c10
  obtain ⟨c0, c1, c2, c3, c4, c5, c6, c7, c8, c9, c10⟩ := HZ1.out.S
  go_wp2_with (fail)
  all_goals first | exact absurd ‹text.toList = []› h3 | exact absurd (List.isEmpty_iff.1 ‹text.toList.isEmpty = true›) h3 | skip
  refine (HI.out.cnt _).mono ?_
  unfold IntPost
  rintro e w2 ⟨rfl, hk⟩
  have HZ2 := Lib.hid (HZ1.out.fresh hk)
  clear hk HZ1 c0 c1 c2 c3 c4 c5 c6 c7 c8 c9 c10
  obtain ⟨c0, c1, c2, c3, c4, c5, c6, c7, c8, c9, c10⟩ := HZ2.out.S
  go_wp2_with (fail)
  refine (HI.out.after _).mono ?_
  unfold OfPost
  rintro e w3 ⟨rfl, hk⟩
  have HZ3 := Lib.hid ((HZ2.out.fresh hk).fresh ((Kept.refl _ _).alloc (.cells #[.int .i64 et, .int .i64 es] 42)))
  have l0 := (Box.new w3 42 #[.int .i64 et, .int .i64 es]).cell 0
  have l1 := (Box.new w3 42 #[.int .i64 et, .int .i64 es]).cell 1
  simp only [List.getElem?_toArray, List.getElem?_cons_succ, List.getElem?_cons_zero] at l0 l1
  clear hk HZ2 c0 c1 c2 c3 c4 c5 c6 c7 c8 c9 c10
  obtain ⟨c0, c1, c2, c3, c4, c5, c6, c7, c8, c9, c10⟩ := HZ3.out.S
  go_wp2_with (fail)
  refine (HI.out.i1 _).mono ?_
  unfold BoolPost
  rintro e w4 ⟨rfl, hk⟩
  have HZ4 := Lib.hid (HZ3.out.fresh hk)
  clear hk HZ3 c0 c1 c2 c3 c4 c5 c6 c7 c8 c9 c10
  obtain ⟨c0, c1, c2, c3, c4, c5, c6, c7, c8, c9, c10⟩ := HZ4.out.S
  go_wp2_with (fail)
  refine (HI.out.i2 _).mono ?_
  unfold BoolPost
  rintro e w5 ⟨rfl, hk⟩
  have HZ5 := Lib.hid (HZ4.out.fresh hk)
  clear hk HZ4 c0 c1 c2 c3 c4 c5 c6 c7 c8 c9 c10
  obtain ⟨c0, c1, c2, c3, c4, c5, c6, c7, c8, c9, c10⟩ := HZ5.out.S
  go_wp2
  go_ret
  exact ⟨rfl, HZ5.out.k⟩
end Go.Proofs.Ytnfehkncfjgeeaa
