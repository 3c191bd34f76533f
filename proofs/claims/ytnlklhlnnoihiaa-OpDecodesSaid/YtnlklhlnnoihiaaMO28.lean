/- The walks of the reference's site and insert. · The reference's insert = insB. Conditions: the text is no longer than a million. -/
import Derived.Test.YtnlklhlnnoihiaaMO21
import Derived.Test.YtnlklhlnnoihiaaMO23
import Derived.Test.YtnlklhlnnoihiaaMO27
import Derived.Test.YtnlklhlnnoihiaaMO26
namespace Go.Proofs.Ytnlklhlnnoihiaa
open Go Go.RowKit

set_option maxRecDepth 100000 in
theorem RSite_any (n : Int) (w : World) : Calls Try.prog 48 #[.int .i64 n] w (BoolPost w (siteB n)) := by
  unfold siteB
  by_cases h1 : 1 ≤ n
  · by_cases h2 : n ≤ 16
    · rw [decide_eq_true ⟨h1, h2⟩]
      go_enter Try.func48, Try.ntmps48
      go_wp2
      go_ret
      exact ⟨rfl, Kept.refl _ _⟩
    · rw [decide_eq_false (by omega)]
      go_enter Try.func48, Try.ntmps48
      go_wp2
      go_ret
      exact ⟨rfl, Kept.refl _ _⟩
  · rw [decide_eq_false (by omega)]
    go_enter Try.func48, Try.ntmps48
    go_wp2
    go_ret
    exact ⟨rfl, Kept.refl _ _⟩
/-- What an insert's walk may call: the text is good (g), has n runes; e is the last identifier; y, y' say whether it and the reference are identifiers; x8: no reference. -/
structure RInsF (it is rt rs : Int) (text : ByteArray) (g : Bool) (n : Nat) (et es : Int) (y y' x8 : Bool) : Prop where
  good : ∀ W, Calls Try.prog 68 #[.string text] W (BoolPost W g)
  cnt : ∀ W, Calls Try.prog 53 #[.string text] W (IntPost W n)
  after : ∀ W, Calls Try.prog 69 #[.agg #[.int .i64 it, .int .i64 is], .int .i64 ((n : Int) - 1)] W (OfPost W (.agg #[.int .i64 et, .int .i64 es]))
  i1 : ∀ W, Calls Try.prog 70 #[.agg #[.int .i64 et, .int .i64 es]] W (BoolPost W y)
  i2 : ∀ W, Calls Try.prog 70 #[.agg #[.int .i64 rt, .int .i64 rs]] W (BoolPost W y')
  q8 : ∀ W, (binOp .eql 27 (.agg #[.int .i64 rt, .int .i64 rs]) (.agg #[.int .i64 0, .int .i64 0])).run Try.prog W = .ok (.bool x8) W
/-- An operation in its box, ahead of whatever is done. -/
structure BK (w : World) (g : Nat) (cs : Array Value) (W : World) : Prop where
  b : Box W g 30 cs
  k : Kept (fun _ => False) w W
theorem BK.fresh {w W W' : World} {g : Nat} {cs : Array Value} (h : BK w g cs W) (hk : Kept (fun _ => False) W W') : BK w g cs W' := ⟨h.b.kept hk id, h.k.trans hk fun _ _ e => e⟩
theorem BK.S {w W : World} {g : Nat} {ds dq kind it is rt rs site : Int} {dl : Nat} {text : ByteArray} {dA gA : Option Addr} {dc gl gc : Nat} (h : BK w g #[.int .i64 ds, .int .i64 dq, .slice dA dl dc, .int .i64 kind, .int .i64 it, .int .i64 is, .int .i64 rt, .int .i64 rs, .string text, .slice gA gl gc, .int .i64 site] W) :
    W.cell? ⟨g, 0, none⟩ = some (.int .i64 ds) ∧ W.cell? ⟨g, 1, none⟩ = some (.int .i64 dq) ∧ W.cell? ⟨g, 2, none⟩ = some (.slice dA dl dc) ∧ W.cell? ⟨g, 3, none⟩ = some (.int .i64 kind) ∧ W.cell? ⟨g, 4, none⟩ = some (.int .i64 it) ∧ W.cell? ⟨g, 5, none⟩ = some (.int .i64 is) ∧
    W.cell? ⟨g, 6, none⟩ = some (.int .i64 rt) ∧ W.cell? ⟨g, 7, none⟩ = some (.int .i64 rs) ∧ W.cell? ⟨g, 8, none⟩ = some (.string text) ∧ W.cell? ⟨g, 9, none⟩ = some (.slice gA gl gc) ∧ W.cell? ⟨g, 10, none⟩ = some (.int .i64 site) :=
  ⟨h.b.cell 0, h.b.cell 1, h.b.cell 2, h.b.cell 3, h.b.cell 4, h.b.cell 5, h.b.cell 6, h.b.cell 7, h.b.cell 8, h.b.cell 9, h.b.cell 10⟩
set_option maxRecDepth 100000 in
set_option maxHeartbeats 3200000 in
theorem rin_1 (ds dq kind it is rt rs site : Int) (dl : Nat) (text : ByteArray) (dA gA : Option Addr) (dc gc gl : Nat) (n : Nat) (et es : Int) (g y y' x8 : Bool) (w : World)
    (_HI : Hid (RInsF it is rt rs text g n et es y y' x8)) (hgl : 0 < gl) :
    Calls Try.prog 51 #[.agg #[.int .i64 ds, .int .i64 dq, .slice dA dl dc, .int .i64 kind, .int .i64 it, .int .i64 is, .int .i64 rt, .int .i64 rs, .string text, .slice gA gl gc, .int .i64 site]] w (BoolPost w false) := by
  have HZ := Lib.hid (show BK w w.heap.size #[.int .i64 ds, .int .i64 dq, .slice dA dl dc, .int .i64 kind, .int .i64 it, .int .i64 is, .int .i64 rt, .int .i64 rs, .string text, .slice gA gl gc, .int .i64 site] (w.alloc (.cells #[.int .i64 ds, .int .i64 dq, .slice dA dl dc, .int .i64 kind, .int .i64 it, .int .i64 is, .int .i64 rt, .int .i64 rs, .string text, .slice gA gl gc, .int .i64 site] 30)) from ⟨Box.new w _ _, (Kept.refl _ _).alloc _⟩)
  go_enter Try.func51, Try.ntmps51
  obtain ⟨c0, c1, c2, c3, c4, c5, c6, c7, c8, c9, c10⟩ := HZ.out.S
  go_wp2
  go_ret
  exact ⟨rfl, HZ.out.k⟩
set_option maxRecDepth 100000 in
set_option maxHeartbeats 3200000 in
theorem rin_2 (ds dq kind it is rt rs site : Int) (dl : Nat) (text : ByteArray) (dA gA : Option Addr) (dc gc : Nat) (n : Nat) (et es : Int) (g y y' x8 : Bool) (w : World)
    (_HI : Hid (RInsF it is rt rs text g n et es y y' x8)) (hsi : site ≠ 0) :
    Calls Try.prog 51 #[.agg #[.int .i64 ds, .int .i64 dq, .slice dA dl dc, .int .i64 kind, .int .i64 it, .int .i64 is, .int .i64 rt, .int .i64 rs, .string text, .slice gA 0 gc, .int .i64 site]] w (BoolPost w false) := by
  have hs' : (site == 0) = false := beq_eq_false_iff_ne.mpr hsi
  have HZ := Lib.hid (show BK w w.heap.size #[.int .i64 ds, .int .i64 dq, .slice dA dl dc, .int .i64 kind, .int .i64 it, .int .i64 is, .int .i64 rt, .int .i64 rs, .string text, .slice gA 0 gc, .int .i64 site] (w.alloc (.cells #[.int .i64 ds, .int .i64 dq, .slice dA dl dc, .int .i64 kind, .int .i64 it, .int .i64 is, .int .i64 rt, .int .i64 rs, .string text, .slice gA 0 gc, .int .i64 site] 30)) from ⟨Box.new w _ _, (Kept.refl _ _).alloc _⟩)
  go_enter Try.func51, Try.ntmps51
  obtain ⟨c0, c1, c2, c3, c4, c5, c6, c7, c8, c9, c10⟩ := HZ.out.S
  go_wp2
  go_ret
  exact ⟨rfl, HZ.out.k⟩
set_option maxRecDepth 100000 in
set_option maxHeartbeats 3200000 in
theorem rin_3 (ds dq kind it is rt rs : Int) (dl : Nat) (text : ByteArray) (dA gA : Option Addr) (dc gc : Nat) (n : Nat) (et es : Int) (g y y' x8 : Bool) (w : World)
    (_HI : Hid (RInsF it is rt rs text g n et es y y' x8)) (h3 : text.toList = []) :
    Calls Try.prog 51 #[.agg #[.int .i64 ds, .int .i64 dq, .slice dA dl dc, .int .i64 kind, .int .i64 it, .int .i64 is, .int .i64 rt, .int .i64 rs, .string text, .slice gA 0 gc, .int .i64 0]] w (BoolPost w false) := by
  have HZ := Lib.hid (show BK w w.heap.size #[.int .i64 ds, .int .i64 dq, .slice dA dl dc, .int .i64 kind, .int .i64 it, .int .i64 is, .int .i64 rt, .int .i64 rs, .string text, .slice gA 0 gc, .int .i64 0] (w.alloc (.cells #[.int .i64 ds, .int .i64 dq, .slice dA dl dc, .int .i64 kind, .int .i64 it, .int .i64 is, .int .i64 rt, .int .i64 rs, .string text, .slice gA 0 gc, .int .i64 0] 30)) from ⟨Box.new w _ _, (Kept.refl _ _).alloc _⟩)
  go_enter Try.func51, Try.ntmps51
  obtain ⟨c0, c1, c2, c3, c4, c5, c6, c7, c8, c9, c10⟩ := HZ.out.S
  go_wp2_with (fail)
  all_goals first | exact absurd h3 ‹¬ text.toList = []› | skip
  go_ret
  exact ⟨rfl, HZ.out.k⟩
set_option maxRecDepth 100000 in
set_option maxHeartbeats 3200000 in
theorem rin_4 (ds dq kind it is rt rs : Int) (dl : Nat) (text : ByteArray) (dA gA : Option Addr) (dc gc : Nat) (n : Nat) (et es : Int) (g y y' x8 : Bool) (w : World)
    (HI : Hid (RInsF it is rt rs text g n et es y y' x8)) (h3 : ¬ text.toList = []) (h4 : g = false) :
    Calls Try.prog 51 #[.agg #[.int .i64 ds, .int .i64 dq, .slice dA dl dc, .int .i64 kind, .int .i64 it, .int .i64 is, .int .i64 rt, .int .i64 rs, .string text, .slice gA 0 gc, .int .i64 0]] w (BoolPost w false) := by
  subst h4
  have HZ := Lib.hid (show BK w w.heap.size #[.int .i64 ds, .int .i64 dq, .slice dA dl dc, .int .i64 kind, .int .i64 it, .int .i64 is, .int .i64 rt, .int .i64 rs, .string text, .slice gA 0 gc, .int .i64 0] (w.alloc (.cells #[.int .i64 ds, .int .i64 dq, .slice dA dl dc, .int .i64 kind, .int .i64 it, .int .i64 is, .int .i64 rt, .int .i64 rs, .string text, .slice gA 0 gc, .int .i64 0] 30)) from ⟨Box.new w _ _, (Kept.refl _ _).alloc _⟩)
  go_enter Try.func51, Try.ntmps51
  obtain ⟨c0, c1, c2, c3, c4, c5, c6, c7, c8, c9, c10⟩ := HZ.out.S
  go_wp2_with (fail)
  all_goals first | exact absurd ‹text.toList = []› h3 | exact absurd (List.isEmpty_iff.1 ‹text.toList.isEmpty = true›) h3 | skip
  refine (HI.out.good _).mono ?_
  unfold BoolPost
  rintro e w1 ⟨rfl, hk⟩
  have HZ1 := Lib.hid (HZ.out.fresh hk)
  clear hk HZ c0 c1 c2 c3 c4 c5 c6 c7 c8 c9 c10
  obtain ⟨c0, c1, c2, c3, c4, c5, c6, c7, c8, c9, c10⟩ := HZ1.out.S
  go_wp2
  go_ret
  exact ⟨rfl, HZ1.out.k⟩
set_option maxRecDepth 100000 in
set_option maxHeartbeats 3200000 in
theorem rin_5 (ds dq kind it is rt rs : Int) (dl : Nat) (text : ByteArray) (dA gA : Option Addr) (dc gc : Nat) (n : Nat) (et es : Int) (g y y' x8 : Bool) (w : World)
    (HI : Hid (RInsF it is rt rs text g n et es y y' x8)) (hn0 : 0 < n) (hnn : n ≤ 1000000) (h3 : ¬ text.toList = []) (h4 : g = true) (h5 : 1024 < n) :
    Calls Try.prog 51 #[.agg #[.int .i64 ds, .int .i64 dq, .slice dA dl dc, .int .i64 kind, .int .i64 it, .int .i64 is, .int .i64 rt, .int .i64 rs, .string text, .slice gA 0 gc, .int .i64 0]] w (BoolPost w false) := by
  subst h4
  have hwr : IntKind.i64.wrap ((n : Int) - 1) = (n : Int) - 1 := IntWalk.i64_in _ ⟨by omega, by omega⟩
  have HZ := Lib.hid (show BK w w.heap.size #[.int .i64 ds, .int .i64 dq, .slice dA dl dc, .int .i64 kind, .int .i64 it, .int .i64 is, .int .i64 rt, .int .i64 rs, .string text, .slice gA 0 gc, .int .i64 0] (w.alloc (.cells #[.int .i64 ds, .int .i64 dq, .slice dA dl dc, .int .i64 kind, .int .i64 it, .int .i64 is, .int .i64 rt, .int .i64 rs, .string text, .slice gA 0 gc, .int .i64 0] 30)) from ⟨Box.new w _ _, (Kept.refl _ _).alloc _⟩)
  go_enter Try.func51, Try.ntmps51
  obtain ⟨c0, c1, c2, c3, c4, c5, c6, c7, c8, c9, c10⟩ := HZ.out.S
  go_wp2_with (fail)
  all_goals first | exact absurd ‹text.toList = []› h3 | exact absurd (List.isEmpty_iff.1 ‹text.toList.isEmpty = true›) h3 | skip
  refine (HI.out.good _).mono ?_
  unfold BoolPost
  rintro e w1 ⟨rfl, hk⟩
  have HZ1 := Lib.hid (HZ.out.fresh hk)
  clear hk HZ c0 c1 c2 c3 c4 c5 c6 c7 c8 c9 c10
  obtain ⟨c0, c1, c2, c3, c4, c5, c6, c7, c8, c9, c10⟩ := HZ1.out.S
  go_wp2_with (fail)
  all_goals first | exact absurd ‹text.toList = []› h3 | exact absurd (List.isEmpty_iff.1 ‹text.toList.isEmpty = true›) h3 | skip
  refine (HI.out.cnt _).mono ?_
  unfold IntPost
  rintro e w2 ⟨rfl, hk⟩
  have HZ2 := Lib.hid (HZ1.out.fresh hk)
  clear hk HZ1 c0 c1 c2 c3 c4 c5 c6 c7 c8 c9 c10
  obtain ⟨c0, c1, c2, c3, c4, c5, c6, c7, c8, c9, c10⟩ := HZ2.out.S
  go_wp2_with (fail)
  refine (HI.out.after _).mono ?_
  unfold OfPost
  rintro e w3 ⟨rfl, hk⟩
  have HZ3 := Lib.hid ((HZ2.out.fresh hk).fresh ((Kept.refl _ _).alloc (.cells #[.int .i64 et, .int .i64 es] 27)))
  have l0 := (Box.new w3 27 #[.int .i64 et, .int .i64 es]).cell 0
  have l1 := (Box.new w3 27 #[.int .i64 et, .int .i64 es]).cell 1
  simp only [List.getElem?_toArray, List.getElem?_cons_succ, List.getElem?_cons_zero] at l0 l1
  clear hk HZ2 c0 c1 c2 c3 c4 c5 c6 c7 c8 c9 c10
  obtain ⟨c0, c1, c2, c3, c4, c5, c6, c7, c8, c9, c10⟩ := HZ3.out.S
  go_wp2
  go_ret
  exact ⟨rfl, HZ3.out.k⟩
set_option maxRecDepth 100000 in
set_option maxHeartbeats 3200000 in
theorem rin_6 (ds dq kind it is rt rs : Int) (dl : Nat) (text : ByteArray) (dA gA : Option Addr) (dc gc : Nat) (n : Nat) (et es : Int) (g y y' x8 : Bool) (w : World)
    (HI : Hid (RInsF it is rt rs text g n et es y y' x8)) (hn0 : 0 < n) (hnn : n ≤ 1000000) (h3 : ¬ text.toList = []) (h4 : g = true) (h5 : n ≤ 1024) (h6 : is ≠ ds) :
    Calls Try.prog 51 #[.agg #[.int .i64 ds, .int .i64 dq, .slice dA dl dc, .int .i64 kind, .int .i64 it, .int .i64 is, .int .i64 rt, .int .i64 rs, .string text, .slice gA 0 gc, .int .i64 0]] w (BoolPost w false) := by
  subst h4
  have h6' : (is == ds) = false := beq_eq_false_iff_ne.mpr h6
  have hwr : IntKind.i64.wrap ((n : Int) - 1) = (n : Int) - 1 := IntWalk.i64_in _ ⟨by omega, by omega⟩
  have HZ := Lib.hid (show BK w w.heap.size #[.int .i64 ds, .int .i64 dq, .slice dA dl dc, .int .i64 kind, .int .i64 it, .int .i64 is, .int .i64 rt, .int .i64 rs, .string text, .slice gA 0 gc, .int .i64 0] (w.alloc (.cells #[.int .i64 ds, .int .i64 dq, .slice dA dl dc, .int .i64 kind, .int .i64 it, .int .i64 is, .int .i64 rt, .int .i64 rs, .string text, .slice gA 0 gc, .int .i64 0] 30)) from ⟨Box.new w _ _, (Kept.refl _ _).alloc _⟩)
  go_enter Try.func51, Try.ntmps51
  obtain ⟨c0, c1, c2, c3, c4, c5, c6, c7, c8, c9, c10⟩ := HZ.out.S
  go_wp2_with (fail)
  all_goals first | exact absurd ‹text.toList = []› h3 | exact absurd (List.isEmpty_iff.1 ‹text.toList.isEmpty = true›) h3 | skip
  refine (HI.out.good _).mono ?_
  unfold BoolPost
  rintro e w1 ⟨rfl, hk⟩
  have HZ1 := Lib.hid (HZ.out.fresh hk)
  clear hk HZ c0 c1 c2 c3 c4 c5 c6 c7 c8 c9 c10
  obtain ⟨c0, c1, c2, c3, c4, c5, c6, c7, c8, c9, c10⟩ := HZ1.out.S
  go_wp2_with (fail)
  all_goals first | exact absurd ‹text.toList = []› h3 | exact absurd (List.isEmpty_iff.1 ‹text.toList.isEmpty = true›) h3 | skip
  refine (HI.out.cnt _).mono ?_
  unfold IntPost
  rintro e w2 ⟨rfl, hk⟩
  have HZ2 := Lib.hid (HZ1.out.fresh hk)
  clear hk HZ1 c0 c1 c2 c3 c4 c5 c6 c7 c8 c9 c10
  obtain ⟨c0, c1, c2, c3, c4, c5, c6, c7, c8, c9, c10⟩ := HZ2.out.S
  go_wp2_with (fail)
  refine (HI.out.after _).mono ?_
  unfold OfPost
  rintro e w3 ⟨rfl, hk⟩
  have HZ3 := Lib.hid ((HZ2.out.fresh hk).fresh ((Kept.refl _ _).alloc (.cells #[.int .i64 et, .int .i64 es] 27)))
  have l0 := (Box.new w3 27 #[.int .i64 et, .int .i64 es]).cell 0
  have l1 := (Box.new w3 27 #[.int .i64 et, .int .i64 es]).cell 1
  simp only [List.getElem?_toArray, List.getElem?_cons_succ, List.getElem?_cons_zero] at l0 l1
  clear hk HZ2 c0 c1 c2 c3 c4 c5 c6 c7 c8 c9 c10
  obtain ⟨c0, c1, c2, c3, c4, c5, c6, c7, c8, c9, c10⟩ := HZ3.out.S
  go_wp2
  go_ret
  exact ⟨rfl, HZ3.out.k⟩
set_option maxRecDepth 100000 in
set_option maxHeartbeats 3200000 in
theorem rin_7 (ds dq kind it is rt rs : Int) (dl : Nat) (text : ByteArray) (dA gA : Option Addr) (dc gc : Nat) (n : Nat) (et es : Int) (g y y' x8 : Bool) (w : World)
    (HI : Hid (RInsF it is rt rs text g n et es y y' x8)) (hn0 : 0 < n) (hnn : n ≤ 1000000) (h3 : ¬ text.toList = []) (h4 : g = true) (h5 : n ≤ 1024) (h6 : is = ds) (h7 : y = false) :
    Calls Try.prog 51 #[.agg #[.int .i64 ds, .int .i64 dq, .slice dA dl dc, .int .i64 kind, .int .i64 it, .int .i64 is, .int .i64 rt, .int .i64 rs, .string text, .slice gA 0 gc, .int .i64 0]] w (BoolPost w false) := by
  subst h4
  have h6' : (is == ds) = true := by rw [h6]; exact beq_self_eq_true ds
  clear h6
  subst h7
  have hwr : IntKind.i64.wrap ((n : Int) - 1) = (n : Int) - 1 := IntWalk.i64_in _ ⟨by omega, by omega⟩
  have HZ := Lib.hid (show BK w w.heap.size #[.int .i64 ds, .int .i64 dq, .slice dA dl dc, .int .i64 kind, .int .i64 it, .int .i64 is, .int .i64 rt, .int .i64 rs, .string text, .slice gA 0 gc, .int .i64 0] (w.alloc (.cells #[.int .i64 ds, .int .i64 dq, .slice dA dl dc, .int .i64 kind, .int .i64 it, .int .i64 is, .int .i64 rt, .int .i64 rs, .string text, .slice gA 0 gc, .int .i64 0] 30)) from ⟨Box.new w _ _, (Kept.refl _ _).alloc _⟩)
  go_enter Try.func51, Try.ntmps51
  obtain ⟨c0, c1, c2, c3, c4, c5, c6, c7, c8, c9, c10⟩ := HZ.out.S
  go_wp2_with (fail)
  all_goals first | exact absurd ‹text.toList = []› h3 | exact absurd (List.isEmpty_iff.1 ‹text.toList.isEmpty = true›) h3 | skip
  refine (HI.out.good _).mono ?_
  unfold BoolPost
  rintro e w1 ⟨rfl, hk⟩
  have HZ1 := Lib.hid (HZ.out.fresh hk)
  clear hk HZ c0 c1 c2 c3 c4 c5 c6 c7 c8 c9 c10
  obtain ⟨c0, c1, c2, c3, c4, c5, c6, c7, c8, c9, c10⟩ := HZ1.out.S
  go_wp2_with (fail)
  all_goals first | exact absurd ‹text.toList = []› h3 | exact absurd (List.isEmpty_iff.1 ‹text.toList.isEmpty = true›) h3 | skip
  refine (HI.out.cnt _).mono ?_
  unfold IntPost
  rintro e w2 ⟨rfl, hk⟩
  have HZ2 := Lib.hid (HZ1.out.fresh hk)
  clear hk HZ1 c0 c1 c2 c3 c4 c5 c6 c7 c8 c9 c10
  obtain ⟨c0, c1, c2, c3, c4, c5, c6, c7, c8, c9, c10⟩ := HZ2.out.S
  go_wp2_with (fail)
  refine (HI.out.after _).mono ?_
  unfold OfPost
  rintro e w3 ⟨rfl, hk⟩
  have HZ3 := Lib.hid ((HZ2.out.fresh hk).fresh ((Kept.refl _ _).alloc (.cells #[.int .i64 et, .int .i64 es] 27)))
  have l0 := (Box.new w3 27 #[.int .i64 et, .int .i64 es]).cell 0
  have l1 := (Box.new w3 27 #[.int .i64 et, .int .i64 es]).cell 1
  simp only [List.getElem?_toArray, List.getElem?_cons_succ, List.getElem?_cons_zero] at l0 l1
  clear hk HZ2 c0 c1 c2 c3 c4 c5 c6 c7 c8 c9 c10
  obtain ⟨c0, c1, c2, c3, c4, c5, c6, c7, c8, c9, c10⟩ := HZ3.out.S
  go_wp2_with (fail)
  refine (HI.out.i1 _).mono ?_
  unfold BoolPost
  rintro e w4 ⟨rfl, hk⟩
  have HZ4 := Lib.hid (HZ3.out.fresh hk)
  clear hk HZ3 c0 c1 c2 c3 c4 c5 c6 c7 c8 c9 c10
  obtain ⟨c0, c1, c2, c3, c4, c5, c6, c7, c8, c9, c10⟩ := HZ4.out.S
  go_wp2
  go_ret
  exact ⟨rfl, HZ4.out.k⟩
set_option maxRecDepth 100000 in
set_option maxHeartbeats 3200000 in
theorem rin_8 (ds dq kind it is rt rs : Int) (dl : Nat) (text : ByteArray) (dA gA : Option Addr) (dc gc : Nat) (n : Nat) (et es : Int) (g y y' x8 : Bool) (w : World)
    (HI : Hid (RInsF it is rt rs text g n et es y y' x8)) (hn0 : 0 < n) (hnn : n ≤ 1000000) (h3 : ¬ text.toList = []) (h4 : g = true) (h5 : n ≤ 1024) (h6 : is = ds) (h7 : y = true) (h8 : x8 = false) (h9 : y' = false) :
    Calls Try.prog 51 #[.agg #[.int .i64 ds, .int .i64 dq, .slice dA dl dc, .int .i64 kind, .int .i64 it, .int .i64 is, .int .i64 rt, .int .i64 rs, .string text, .slice gA 0 gc, .int .i64 0]] w (BoolPost w false) := by
  subst h4
  have h6' : (is == ds) = true := by rw [h6]; exact beq_self_eq_true ds
  clear h6
  subst h7
  have q8 := HI.out.q8
  rw [h8] at q8
  clear h8
  subst h9
  have hwr : IntKind.i64.wrap ((n : Int) - 1) = (n : Int) - 1 := IntWalk.i64_in _ ⟨by omega, by omega⟩
  have HZ := Lib.hid (show BK w w.heap.size #[.int .i64 ds, .int .i64 dq, .slice dA dl dc, .int .i64 kind, .int .i64 it, .int .i64 is, .int .i64 rt, .int .i64 rs, .string text, .slice gA 0 gc, .int .i64 0] (w.alloc (.cells #[.int .i64 ds, .int .i64 dq, .slice dA dl dc, .int .i64 kind, .int .i64 it, .int .i64 is, .int .i64 rt, .int .i64 rs, .string text, .slice gA 0 gc, .int .i64 0] 30)) from ⟨Box.new w _ _, (Kept.refl _ _).alloc _⟩)
  go_enter Try.func51, Try.ntmps51
  obtain ⟨c0, c1, c2, c3, c4, c5, c6, c7, c8, c9, c10⟩ := HZ.out.S
  go_wp2_with (fail)
  all_goals first | exact absurd ‹text.toList = []› h3 | exact absurd (List.isEmpty_iff.1 ‹text.toList.isEmpty = true›) h3 | skip
  refine (HI.out.good _).mono ?_
  unfold BoolPost
  rintro e w1 ⟨rfl, hk⟩
  have HZ1 := Lib.hid (HZ.out.fresh hk)
  clear hk HZ c0 c1 c2 c3 c4 c5 c6 c7 c8 c9 c10
  obtain ⟨c0, c1, c2, c3, c4, c5, c6, c7, c8, c9, c10⟩ := HZ1.out.S
  go_wp2_with (fail)
  all_goals first | exact absurd ‹text.toList = []› h3 | exact absurd (List.isEmpty_iff.1 ‹text.toList.isEmpty = true›) h3 | skip
  refine (HI.out.cnt _).mono ?_
  unfold IntPost
  rintro e w2 ⟨rfl, hk⟩
  have HZ2 := Lib.hid (HZ1.out.fresh hk)
  clear hk HZ1 c0 c1 c2 c3 c4 c5 c6 c7 c8 c9 c10
  obtain ⟨c0, c1, c2, c3, c4, c5, c6, c7, c8, c9, c10⟩ := HZ2.out.S
  go_wp2_with (fail)
  refine (HI.out.after _).mono ?_
  unfold OfPost
  rintro e w3 ⟨rfl, hk⟩
  have HZ3 := Lib.hid ((HZ2.out.fresh hk).fresh ((Kept.refl _ _).alloc (.cells #[.int .i64 et, .int .i64 es] 27)))
  have l0 := (Box.new w3 27 #[.int .i64 et, .int .i64 es]).cell 0
  have l1 := (Box.new w3 27 #[.int .i64 et, .int .i64 es]).cell 1
  simp only [List.getElem?_toArray, List.getElem?_cons_succ, List.getElem?_cons_zero] at l0 l1
  clear hk HZ2 c0 c1 c2 c3 c4 c5 c6 c7 c8 c9 c10
  obtain ⟨c0, c1, c2, c3, c4, c5, c6, c7, c8, c9, c10⟩ := HZ3.out.S
  go_wp2_with (fail)
  refine (HI.out.i1 _).mono ?_
  unfold BoolPost
  rintro e w4 ⟨rfl, hk⟩
  have HZ4 := Lib.hid (HZ3.out.fresh hk)
  clear hk HZ3 c0 c1 c2 c3 c4 c5 c6 c7 c8 c9 c10
  obtain ⟨c0, c1, c2, c3, c4, c5, c6, c7, c8, c9, c10⟩ := HZ4.out.S
  go_wp2_with (fail)
  refine (HI.out.i2 _).mono ?_
  unfold BoolPost
  rintro e w5 ⟨rfl, hk⟩
  have HZ5 := Lib.hid (HZ4.out.fresh hk)
  clear hk HZ4 c0 c1 c2 c3 c4 c5 c6 c7 c8 c9 c10
  obtain ⟨c0, c1, c2, c3, c4, c5, c6, c7, c8, c9, c10⟩ := HZ5.out.S
  go_wp2
  go_ret
  exact ⟨rfl, HZ5.out.k⟩
set_option maxRecDepth 100000 in
set_option maxHeartbeats 3200000 in
theorem rin_9 (ds dq kind it is rt rs : Int) (dl : Nat) (text : ByteArray) (dA gA : Option Addr) (dc gc : Nat) (n : Nat) (et es : Int) (g y y' x8 : Bool) (w : World)
    (HI : Hid (RInsF it is rt rs text g n et es y y' x8)) (hn0 : 0 < n) (hnn : n ≤ 1000000) (h3 : ¬ text.toList = []) (h4 : g = true) (h5 : n ≤ 1024) (h6 : is = ds) (h7 : y = true) (h8 : x8 = true) (h10 : it ≤ rt) :
    Calls Try.prog 51 #[.agg #[.int .i64 ds, .int .i64 dq, .slice dA dl dc, .int .i64 kind, .int .i64 it, .int .i64 is, .int .i64 rt, .int .i64 rs, .string text, .slice gA 0 gc, .int .i64 0]] w (BoolPost w false) := by
  subst h4
  have h6' : (is == ds) = true := by rw [h6]; exact beq_self_eq_true ds
  clear h6
  subst h7
  have q8 := HI.out.q8
  rw [h8] at q8
  clear h8
  have hd : decide (rt < it) = false := decide_eq_false (Int.not_lt.2 h10)
  have hwr : IntKind.i64.wrap ((n : Int) - 1) = (n : Int) - 1 := IntWalk.i64_in _ ⟨by omega, by omega⟩
  have HZ := Lib.hid (show BK w w.heap.size #[.int .i64 ds, .int .i64 dq, .slice dA dl dc, .int .i64 kind, .int .i64 it, .int .i64 is, .int .i64 rt, .int .i64 rs, .string text, .slice gA 0 gc, .int .i64 0] (w.alloc (.cells #[.int .i64 ds, .int .i64 dq, .slice dA dl dc, .int .i64 kind, .int .i64 it, .int .i64 is, .int .i64 rt, .int .i64 rs, .string text, .slice gA 0 gc, .int .i64 0] 30)) from ⟨Box.new w _ _, (Kept.refl _ _).alloc _⟩)
  go_enter Try.func51, Try.ntmps51
  obtain ⟨c0, c1, c2, c3, c4, c5, c6, c7, c8, c9, c10⟩ := HZ.out.S
  go_wp2_with (fail)
  all_goals first | exact absurd ‹text.toList = []› h3 | exact absurd (List.isEmpty_iff.1 ‹text.toList.isEmpty = true›) h3 | skip
  refine (HI.out.good _).mono ?_
  unfold BoolPost
  rintro e w1 ⟨rfl, hk⟩
  have HZ1 := Lib.hid (HZ.out.fresh hk)
  clear hk HZ c0 c1 c2 c3 c4 c5 c6 c7 c8 c9 c10
  obtain ⟨c0, c1, c2, c3, c4, c5, c6, c7, c8, c9, c10⟩ := HZ1.out.S
  go_wp2_with (fail)
  all_goals first | exact absurd ‹text.toList = []› h3 | exact absurd (List.isEmpty_iff.1 ‹text.toList.isEmpty = true›) h3 | skip
  refine (HI.out.cnt _).mono ?_
  unfold IntPost
  rintro e w2 ⟨rfl, hk⟩
  have HZ2 := Lib.hid (HZ1.out.fresh hk)
  clear hk HZ1 c0 c1 c2 c3 c4 c5 c6 c7 c8 c9 c10
  obtain ⟨c0, c1, c2, c3, c4, c5, c6, c7, c8, c9, c10⟩ := HZ2.out.S
  go_wp2_with (fail)
  refine (HI.out.after _).mono ?_
  unfold OfPost
  rintro e w3 ⟨rfl, hk⟩
  have HZ3 := Lib.hid ((HZ2.out.fresh hk).fresh ((Kept.refl _ _).alloc (.cells #[.int .i64 et, .int .i64 es] 27)))
  have l0 := (Box.new w3 27 #[.int .i64 et, .int .i64 es]).cell 0
  have l1 := (Box.new w3 27 #[.int .i64 et, .int .i64 es]).cell 1
  simp only [List.getElem?_toArray, List.getElem?_cons_succ, List.getElem?_cons_zero] at l0 l1
  clear hk HZ2 c0 c1 c2 c3 c4 c5 c6 c7 c8 c9 c10
  obtain ⟨c0, c1, c2, c3, c4, c5, c6, c7, c8, c9, c10⟩ := HZ3.out.S
  go_wp2_with (fail)
  refine (HI.out.i1 _).mono ?_
  unfold BoolPost
  rintro e w4 ⟨rfl, hk⟩
  have HZ4 := Lib.hid (HZ3.out.fresh hk)
  clear hk HZ3 c0 c1 c2 c3 c4 c5 c6 c7 c8 c9 c10
  obtain ⟨c0, c1, c2, c3, c4, c5, c6, c7, c8, c9, c10⟩ := HZ4.out.S
  go_wp2
  go_ret
  exact ⟨rfl, HZ4.out.k⟩
set_option maxRecDepth 100000 in
set_option maxHeartbeats 3200000 in
theorem rin_10 (ds dq kind it is rt rs : Int) (dl : Nat) (text : ByteArray) (dA gA : Option Addr) (dc gc : Nat) (n : Nat) (et es : Int) (g y y' x8 : Bool) (w : World)
    (HI : Hid (RInsF it is rt rs text g n et es y y' x8)) (hn0 : 0 < n) (hnn : n ≤ 1000000) (h3 : ¬ text.toList = []) (h4 : g = true) (h5 : n ≤ 1024) (h6 : is = ds) (h7 : y = true) (h8 : x8 = false) (h9 : y' = true) (h10 : it ≤ rt) :
    Calls Try.prog 51 #[.agg #[.int .i64 ds, .int .i64 dq, .slice dA dl dc, .int .i64 kind, .int .i64 it, .int .i64 is, .int .i64 rt, .int .i64 rs, .string text, .slice gA 0 gc, .int .i64 0]] w (BoolPost w false) := by
  subst h4
  have h6' : (is == ds) = true := by rw [h6]; exact beq_self_eq_true ds
  clear h6
  subst h7
  have q8 := HI.out.q8
  rw [h8] at q8
  clear h8
  subst h9
  have hd : decide (rt < it) = false := decide_eq_false (Int.not_lt.2 h10)
  have hwr : IntKind.i64.wrap ((n : Int) - 1) = (n : Int) - 1 := IntWalk.i64_in _ ⟨by omega, by omega⟩
  have HZ := Lib.hid (show BK w w.heap.size #[.int .i64 ds, .int .i64 dq, .slice dA dl dc, .int .i64 kind, .int .i64 it, .int .i64 is, .int .i64 rt, .int .i64 rs, .string text, .slice gA 0 gc, .int .i64 0] (w.alloc (.cells #[.int .i64 ds, .int .i64 dq, .slice dA dl dc, .int .i64 kind, .int .i64 it, .int .i64 is, .int .i64 rt, .int .i64 rs, .string text, .slice gA 0 gc, .int .i64 0] 30)) from ⟨Box.new w _ _, (Kept.refl _ _).alloc _⟩)
  go_enter Try.func51, Try.ntmps51
  obtain ⟨c0, c1, c2, c3, c4, c5, c6, c7, c8, c9, c10⟩ := HZ.out.S
  go_wp2_with (fail)
  all_goals first | exact absurd ‹text.toList = []› h3 | exact absurd (List.isEmpty_iff.1 ‹text.toList.isEmpty = true›) h3 | skip
  refine (HI.out.good _).mono ?_
  unfold BoolPost
  rintro e w1 ⟨rfl, hk⟩
  have HZ1 := Lib.hid (HZ.out.fresh hk)
  clear hk HZ c0 c1 c2 c3 c4 c5 c6 c7 c8 c9 c10
  obtain ⟨c0, c1, c2, c3, c4, c5, c6, c7, c8, c9, c10⟩ := HZ1.out.S
  go_wp2_with (fail)
  all_goals first | exact absurd ‹text.toList = []› h3 | exact absurd (List.isEmpty_iff.1 ‹text.toList.isEmpty = true›) h3 | skip
  refine (HI.out.cnt _).mono ?_
  unfold IntPost
  rintro e w2 ⟨rfl, hk⟩
  have HZ2 := Lib.hid (HZ1.out.fresh hk)
  clear hk HZ1 c0 c1 c2 c3 c4 c5 c6 c7 c8 c9 c10
  obtain ⟨c0, c1, c2, c3, c4, c5, c6, c7, c8, c9, c10⟩ := HZ2.out.S
  go_wp2_with (fail)
  refine (HI.out.after _).mono ?_
  unfold OfPost
  rintro e w3 ⟨rfl, hk⟩
  have HZ3 := Lib.hid ((HZ2.out.fresh hk).fresh ((Kept.refl _ _).alloc (.cells #[.int .i64 et, .int .i64 es] 27)))
  have l0 := (Box.new w3 27 #[.int .i64 et, .int .i64 es]).cell 0
  have l1 := (Box.new w3 27 #[.int .i64 et, .int .i64 es]).cell 1
  simp only [List.getElem?_toArray, List.getElem?_cons_succ, List.getElem?_cons_zero] at l0 l1
  clear hk HZ2 c0 c1 c2 c3 c4 c5 c6 c7 c8 c9 c10
  obtain ⟨c0, c1, c2, c3, c4, c5, c6, c7, c8, c9, c10⟩ := HZ3.out.S
  go_wp2_with (fail)
  refine (HI.out.i1 _).mono ?_
  unfold BoolPost
  rintro e w4 ⟨rfl, hk⟩
  have HZ4 := Lib.hid (HZ3.out.fresh hk)
  clear hk HZ3 c0 c1 c2 c3 c4 c5 c6 c7 c8 c9 c10
  obtain ⟨c0, c1, c2, c3, c4, c5, c6, c7, c8, c9, c10⟩ := HZ4.out.S
  go_wp2_with (fail)
  refine (HI.out.i2 _).mono ?_
  unfold BoolPost
  rintro e w5 ⟨rfl, hk⟩
  have HZ5 := Lib.hid (HZ4.out.fresh hk)
  clear hk HZ4 c0 c1 c2 c3 c4 c5 c6 c7 c8 c9 c10
  obtain ⟨c0, c1, c2, c3, c4, c5, c6, c7, c8, c9, c10⟩ := HZ5.out.S
  go_wp2
  go_ret
  exact ⟨rfl, HZ5.out.k⟩
set_option maxRecDepth 100000 in
set_option maxHeartbeats 3200000 in
theorem rin_11 (ds dq kind it is rt rs : Int) (dl : Nat) (text : ByteArray) (dA gA : Option Addr) (dc gc : Nat) (n : Nat) (et es : Int) (g y y' x8 : Bool) (w : World)
    (HI : Hid (RInsF it is rt rs text g n et es y y' x8)) (hn0 : 0 < n) (hnn : n ≤ 1000000) (h3 : ¬ text.toList = []) (h4 : g = true) (h5 : n ≤ 1024) (h6 : is = ds) (h7 : y = true) (h8 : x8 = true) (h10 : rt < it) :
    Calls Try.prog 51 #[.agg #[.int .i64 ds, .int .i64 dq, .slice dA dl dc, .int .i64 kind, .int .i64 it, .int .i64 is, .int .i64 rt, .int .i64 rs, .string text, .slice gA 0 gc, .int .i64 0]] w (BoolPost w true) := by
  subst h4
  have h6' : (is == ds) = true := by rw [h6]; exact beq_self_eq_true ds
  clear h6
  subst h7
  have q8 := HI.out.q8
  rw [h8] at q8
  clear h8
  have hd : decide (rt < it) = true := decide_eq_true h10
  have hwr : IntKind.i64.wrap ((n : Int) - 1) = (n : Int) - 1 := IntWalk.i64_in _ ⟨by omega, by omega⟩
  have HZ := Lib.hid (show BK w w.heap.size #[.int .i64 ds, .int .i64 dq, .slice dA dl dc, .int .i64 kind, .int .i64 it, .int .i64 is, .int .i64 rt, .int .i64 rs, .string text, .slice gA 0 gc, .int .i64 0] (w.alloc (.cells #[.int .i64 ds, .int .i64 dq, .slice dA dl dc, .int .i64 kind, .int .i64 it, .int .i64 is, .int .i64 rt, .int .i64 rs, .string text, .slice gA 0 gc, .int .i64 0] 30)) from ⟨Box.new w _ _, (Kept.refl _ _).alloc _⟩)
  go_enter Try.func51, Try.ntmps51
  obtain ⟨c0, c1, c2, c3, c4, c5, c6, c7, c8, c9, c10⟩ := HZ.out.S
  go_wp2_with (fail)
  all_goals first | exact absurd ‹text.toList = []› h3 | exact absurd (List.isEmpty_iff.1 ‹text.toList.isEmpty = true›) h3 | skip
  refine (HI.out.good _).mono ?_
  unfold BoolPost
  rintro e w1 ⟨rfl, hk⟩
  have HZ1 := Lib.hid (HZ.out.fresh hk)
  clear hk HZ c0 c1 c2 c3 c4 c5 c6 c7 c8 c9 c10
  obtain ⟨c0, c1, c2, c3, c4, c5, c6, c7, c8, c9, c10⟩ := HZ1.out.S
  go_wp2_with (fail)
  all_goals first | exact absurd ‹text.toList = []› h3 | exact absurd (List.isEmpty_iff.1 ‹text.toList.isEmpty = true›) h3 | skip
  refine (HI.out.cnt _).mono ?_
  unfold IntPost
  rintro e w2 ⟨rfl, hk⟩
  have HZ2 := Lib.hid (HZ1.out.fresh hk)
  clear hk HZ1 c0 c1 c2 c3 c4 c5 c6 c7 c8 c9 c10
  obtain ⟨c0, c1, c2, c3, c4, c5, c6, c7, c8, c9, c10⟩ := HZ2.out.S
  go_wp2_with (fail)
  refine (HI.out.after _).mono ?_
  unfold OfPost
  rintro e w3 ⟨rfl, hk⟩
  have HZ3 := Lib.hid ((HZ2.out.fresh hk).fresh ((Kept.refl _ _).alloc (.cells #[.int .i64 et, .int .i64 es] 27)))
  have l0 := (Box.new w3 27 #[.int .i64 et, .int .i64 es]).cell 0
  have l1 := (Box.new w3 27 #[.int .i64 et, .int .i64 es]).cell 1
  simp only [List.getElem?_toArray, List.getElem?_cons_succ, List.getElem?_cons_zero] at l0 l1
  clear hk HZ2 c0 c1 c2 c3 c4 c5 c6 c7 c8 c9 c10
  obtain ⟨c0, c1, c2, c3, c4, c5, c6, c7, c8, c9, c10⟩ := HZ3.out.S
  go_wp2_with (fail)
  refine (HI.out.i1 _).mono ?_
  unfold BoolPost
  rintro e w4 ⟨rfl, hk⟩
  have HZ4 := Lib.hid (HZ3.out.fresh hk)
  clear hk HZ3 c0 c1 c2 c3 c4 c5 c6 c7 c8 c9 c10
  obtain ⟨c0, c1, c2, c3, c4, c5, c6, c7, c8, c9, c10⟩ := HZ4.out.S
  go_wp2
  go_ret
  exact ⟨rfl, HZ4.out.k⟩
set_option maxRecDepth 100000 in
set_option maxHeartbeats 3200000 in
theorem rin_12 (ds dq kind it is rt rs : Int) (dl : Nat) (text : ByteArray) (dA gA : Option Addr) (dc gc : Nat) (n : Nat) (et es : Int) (g y y' x8 : Bool) (w : World)
    (HI : Hid (RInsF it is rt rs text g n et es y y' x8)) (hn0 : 0 < n) (hnn : n ≤ 1000000) (h3 : ¬ text.toList = []) (h4 : g = true) (h5 : n ≤ 1024) (h6 : is = ds) (h7 : y = true) (h8 : x8 = false) (h9 : y' = true) (h10 : rt < it) :
    Calls Try.prog 51 #[.agg #[.int .i64 ds, .int .i64 dq, .slice dA dl dc, .int .i64 kind, .int .i64 it, .int .i64 is, .int .i64 rt, .int .i64 rs, .string text, .slice gA 0 gc, .int .i64 0]] w (BoolPost w true) := by
  subst h4
  have h6' : (is == ds) = true := by rw [h6]; exact beq_self_eq_true ds
  clear h6
  subst h7
  have q8 := HI.out.q8
  rw [h8] at q8
  clear h8
  subst h9
  have hd : decide (rt < it) = true := decide_eq_true h10
  have hwr : IntKind.i64.wrap ((n : Int) - 1) = (n : Int) - 1 := IntWalk.i64_in _ ⟨by omega, by omega⟩
  have HZ := Lib.hid (show BK w w.heap.size #[.int .i64 ds, .int .i64 dq, .slice dA dl dc, .int .i64 kind, .int .i64 it, .int .i64 is, .int .i64 rt, .int .i64 rs, .string text, .slice gA 0 gc, .int .i64 0] (w.alloc (.cells #[.int .i64 ds, .int .i64 dq, .slice dA dl dc, .int .i64 kind, .int .i64 it, .int .i64 is, .int .i64 rt, .int .i64 rs, .string text, .slice gA 0 gc, .int .i64 0] 30)) from ⟨Box.new w _ _, (Kept.refl _ _).alloc _⟩)
  go_enter Try.func51, Try.ntmps51
  obtain ⟨c0, c1, c2, c3, c4, c5, c6, c7, c8, c9, c10⟩ := HZ.out.S
  go_wp2_with (fail)
  all_goals first | exact absurd ‹text.toList = []› h3 | exact absurd (List.isEmpty_iff.1 ‹text.toList.isEmpty = true›) h3 | skip
  refine (HI.out.good _).mono ?_
  unfold BoolPost
  rintro e w1 ⟨rfl, hk⟩
  have HZ1 := Lib.hid (HZ.out.fresh hk)
  clear hk HZ c0 c1 c2 c3 c4 c5 c6 c7 c8 c9 c10
  obtain ⟨c0, c1, c2, c3, c4, c5, c6, c7, c8, c9, c10⟩ := HZ1.out.S
  go_wp2_with (fail)
  all_goals first | exact absurd ‹text.toList = []› h3 | exact absurd (List.isEmpty_iff.1 ‹text.toList.isEmpty = true›) h3 | skip
  refine (HI.out.cnt _).mono ?_
  unfold IntPost
  rintro e w2 ⟨rfl, hk⟩
  have HZ2 := Lib.hid (HZ1.out.fresh hk)
  clear hk HZ1 c0 c1 c2 c3 c4 c5 c6 c7 c8 c9 c10
  obtain ⟨c0, c1, c2, c3, c4, c5, c6, c7, c8, c9, c10⟩ := HZ2.out.S
  go_wp2_with (fail)
  refine (HI.out.after _).mono ?_
  unfold OfPost
  rintro e w3 ⟨rfl, hk⟩
  have HZ3 := Lib.hid ((HZ2.out.fresh hk).fresh ((Kept.refl _ _).alloc (.cells #[.int .i64 et, .int .i64 es] 27)))
  have l0 := (Box.new w3 27 #[.int .i64 et, .int .i64 es]).cell 0
  have l1 := (Box.new w3 27 #[.int .i64 et, .int .i64 es]).cell 1
  simp only [List.getElem?_toArray, List.getElem?_cons_succ, List.getElem?_cons_zero] at l0 l1
  clear hk HZ2 c0 c1 c2 c3 c4 c5 c6 c7 c8 c9 c10
  obtain ⟨c0, c1, c2, c3, c4, c5, c6, c7, c8, c9, c10⟩ := HZ3.out.S
  go_wp2_with (fail)
  refine (HI.out.i1 _).mono ?_
  unfold BoolPost
  rintro e w4 ⟨rfl, hk⟩
  have HZ4 := Lib.hid (HZ3.out.fresh hk)
  clear hk HZ3 c0 c1 c2 c3 c4 c5 c6 c7 c8 c9 c10
  obtain ⟨c0, c1, c2, c3, c4, c5, c6, c7, c8, c9, c10⟩ := HZ4.out.S
  go_wp2_with (fail)
  refine (HI.out.i2 _).mono ?_
  unfold BoolPost
  rintro e w5 ⟨rfl, hk⟩
  have HZ5 := Lib.hid (HZ4.out.fresh hk)
  clear hk HZ4 c0 c1 c2 c3 c4 c5 c6 c7 c8 c9 c10
  obtain ⟨c0, c1, c2, c3, c4, c5, c6, c7, c8, c9, c10⟩ := HZ5.out.S
  go_wp2
  go_ret
  exact ⟨rfl, HZ5.out.k⟩
end Go.Proofs.Ytnlklhlnnoihiaa

namespace Go.Proofs.Ytnlklhlnnoihiaa
open Go Go.RowKit

theorem toList_nil (t : ByteArray) : t.toList = [] ↔ t = ⟨#[]⟩ := by
  have h := str_dec t ⟨#[]⟩
  have e : (⟨#[]⟩ : ByteArray).toList = [] := by kernel_rfl
  rw [e] at h
  constructor
  · intro hn
    rw [hn] at h
    exact of_decide_eq_true h.symm
  · rintro rfl
    exact e
theorem cnt_zero (t : ByteArray) : cnt t = 0 ↔ t.toList = [] := by
  rw [toList_nil]
  constructor
  · intro h
    obtain ⟨n, hn⟩ : ∃ n, t.size = n := ⟨_, rfl⟩
    unfold cnt cuts at h
    cases n with
    | zero =>
      obtain ⟨d⟩ := t
      have : d = #[] := Array.eq_empty_of_size_eq_zero hn
      rw [this]
    | succ n =>
      rw [hn, pcs, if_pos (by omega)] at h
      simp at h
  · rintro rfl
    kernel_rfl
theorem okId_after (i : Idt) (n : Int) : okId (afterI i n) = !decide (afterI i n = noId) := by
  unfold afterI
  split
  · rename_i h
    obtain ⟨h1, h2, h3⟩ := h
    rw [okId_iff] at h1
    have hk : okId ⟨i.time + n, i.site⟩ = true := (okId_iff ⟨i.time + n, i.site⟩).2 ⟨by show 1 ≤ i.time + n; omega, by show i.time + n ≤ 2147483647; omega, h1.2.2.1, h1.2.2.2⟩
    have hd : decide ((⟨i.time + n, i.site⟩ : Idt) = noId) = false := decide_eq_false fun e => by
      injection e with e1 e2
      omega
    rw [hk, hd]
    rfl
  · rw [decide_eq_true rfl]
    kernel_rfl
theorem okId_self (i : Idt) (h : ¬ i = noId) : okId i = decide (afterI i 0 = i) := by
  unfold afterI
  by_cases hk : okId i = true
  · have := (okId_iff i).1 hk
    rw [hk, if_pos ⟨rfl, by omega, by omega⟩, decide_eq_true]
    simp
  · rw [if_neg fun e => hk e.1, decide_eq_false fun e => h e.symm]
    simpa using hk
/-- The tests of an insert, in the reference's order. -/
theorem insB_ref (o : Opr) : insB o = (decide (o.gone.length = 0) && (decide (o.site = 0) && (decide (¬ o.text.toList = []) && (decide (badAt o.text < 0) && (decide (cnt o.text ≤ 1024) && (decide (o.id.site = o.dot.site) &&
    (okId (afterI o.id (cnt o.text - 1)) && ((decide (o.ref.time = 0 ∧ o.ref.site = 0) || okId o.ref) && decide (o.ref.time < o.id.time))))))))) := by
  have h1 : sameRest o.id o.ref o.text o.site o.id o.ref o.text 0 = decide (o.site = 0) := by simp [sameRest]
  have h2 : decide (0 < cnt o.text) = decide (¬ o.text.toList = []) := decide_eq_decide.2 (by rw [← cnt_zero]; omega)
  have h3 : decide (o.ref.time = 0 ∧ o.ref.site = 0) = decide (o.ref = noId) := id_dec o.ref noId
  have h4 : (decide (o.ref = noId) || decide (afterI o.ref 0 = o.ref)) = (decide (o.ref = noId) || okId o.ref) := by
    by_cases h : o.ref = noId
    · rw [decide_eq_true h, Bool.true_or, Bool.true_or]
    · rw [okId_self _ h]
  unfold insB
  rw [h1, h2, h3, h4, okId_after]
  rw [Bool.eq_iff_iff]
  simp only [Bool.and_eq_true]
  constructor
  · rintro ⟨a, b, c, d, e, f⟩; exact ⟨a, b, c, e, d, f⟩
  · rintro ⟨a, b, c, d, e, f⟩; exact ⟨a, b, c, e, d, f⟩
theorem RInsert_any (o : Opr) (dA gA : Option Addr) (dc gc : Nat) (w : World) (ht : o.text.size ≤ 1000000) :
    Calls Try.prog 51 #[.agg (o.cells dA dc gA gc)] w (BoolPost w (insB o)) := by
  rw [insB_ref]
  obtain ⟨⟨ds, dq⟩, deps, kind, ⟨it, is⟩, ⟨rt, rs⟩, text, gone, site⟩ := o
  simp only at ht
  unfold Opr.cells
  simp only
  have hnn : cnt text ≤ 1000000 := Nat.le_trans (cnt_le text) ht
  have HI := Lib.hid (show RInsF it is rt rs text (decide (badAt text < 0)) (cnt text) (afterI ⟨it, is⟩ (cnt text - 1)).time (afterI ⟨it, is⟩ (cnt text - 1)).site (okId (afterI ⟨it, is⟩ (cnt text - 1))) (okId ⟨rt, rs⟩) (decide (rt = 0 ∧ rs = 0)) from
    { good := fun W => Good_any text W ht, cnt := fun W => RCount_any text W ht, after := fun W => RAfter_any ⟨it, is⟩ ((cnt text : Int) - 1) W ⟨by omega, by omega⟩,
      i1 := fun W => IsID_any (afterI ⟨it, is⟩ (cnt text - 1)) W, i2 := fun W => IsID_any ⟨rt, rs⟩ W, q8 := fun W => eql_id _ _ _ _ W })
  have hz := cnt_zero text
  generalize okId (afterI ⟨it, is⟩ (cnt text - 1)) = y at HI ⊢
  generalize (afterI ⟨it, is⟩ (cnt text - 1)).time = et at HI
  generalize (afterI ⟨it, is⟩ (cnt text - 1)).site = es at HI
  generalize okId ⟨rt, rs⟩ = y' at HI ⊢
  generalize decide (rt = 0 ∧ rs = 0) = x8 at HI ⊢
  generalize decide (badAt text < 0) = g at HI ⊢
  generalize cnt text = n at *
  rcases Nat.eq_zero_or_pos gone.length with h0 | h0
  · rw [h0, decide_eq_true (rfl : (0 : Nat) = 0), Bool.true_and]
    by_cases hs : site = 0
    · subst hs
      rw [decide_eq_true (rfl : (0 : Int) = 0), Bool.true_and]
      by_cases h3 : text.toList = []
      · rw [decide_eq_false fun e => e h3, Bool.false_and]
        exact rin_3 ds dq kind it is rt rs deps.length text dA gA dc gc n et es g y y' x8 w HI h3
      · have hn0 : 0 < n := Nat.pos_of_ne_zero fun e => h3 (hz.1 e)
        rw [decide_eq_true h3, Bool.true_and]
        clear hz
        cases h4 : g with
        | false => exact rin_4 ds dq kind it is rt rs deps.length text dA gA dc gc n et es g y y' x8 w HI h3 h4
        | true =>
          rw [Bool.true_and]
          rcases Nat.lt_or_ge 1024 n with h5 | h5
          · rw [decide_eq_false (by omega), Bool.false_and]
            exact rin_5 ds dq kind it is rt rs deps.length text dA gA dc gc n et es g y y' x8 w HI hn0 hnn h3 h4 h5
          · rw [decide_eq_true h5, Bool.true_and]
            by_cases h6 : is = ds
            · rw [decide_eq_true h6, Bool.true_and]
              cases h7 : y with
              | false => exact rin_7 ds dq kind it is rt rs deps.length text dA gA dc gc n et es g y y' x8 w HI hn0 hnn h3 h4 h5 h6 h7
              | true =>
                rw [Bool.true_and]
                cases h8 : x8 with
                | true =>
                  rw [Bool.true_or, Bool.true_and]
                  rcases Int.lt_or_le rt it with h10 | h10
                  · rw [decide_eq_true h10]
                    exact rin_11 ds dq kind it is rt rs deps.length text dA gA dc gc n et es g y y' x8 w HI hn0 hnn h3 h4 h5 h6 h7 h8 h10
                  · rw [decide_eq_false (by omega)]
                    exact rin_9 ds dq kind it is rt rs deps.length text dA gA dc gc n et es g y y' x8 w HI hn0 hnn h3 h4 h5 h6 h7 h8 h10
                | false =>
                  rw [Bool.false_or]
                  cases h9 : y' with
                  | false => exact rin_8 ds dq kind it is rt rs deps.length text dA gA dc gc n et es g y y' x8 w HI hn0 hnn h3 h4 h5 h6 h7 h8 h9
                  | true =>
                    rw [Bool.true_and]
                    rcases Int.lt_or_le rt it with h10 | h10
                    · rw [decide_eq_true h10]
                      exact rin_12 ds dq kind it is rt rs deps.length text dA gA dc gc n et es g y y' x8 w HI hn0 hnn h3 h4 h5 h6 h7 h8 h9 h10
                    · rw [decide_eq_false (by omega)]
                      exact rin_10 ds dq kind it is rt rs deps.length text dA gA dc gc n et es g y y' x8 w HI hn0 hnn h3 h4 h5 h6 h7 h8 h9 h10
            · rw [decide_eq_false h6, Bool.false_and]
              exact rin_6 ds dq kind it is rt rs deps.length text dA gA dc gc n et es g y y' x8 w HI hn0 hnn h3 h4 h5 h6
    · rw [decide_eq_false hs, Bool.false_and]
      exact rin_2 ds dq kind it is rt rs site deps.length text dA gA dc gc n et es g y y' x8 w HI hs
  · rw [decide_eq_false (by omega), Bool.false_and]
    exact rin_1 ds dq kind it is rt rs site deps.length text dA gA dc gc gone.length n et es g y y' x8 w HI h0
end Go.Proofs.Ytnlklhlnnoihiaa
