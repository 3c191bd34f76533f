/- The walks of the reference's site and insert. · The reference's insert = insB. Conditions: the text is no longer than a million. · The walk of the reference's Check of operations. Conditions: the dots lie in memory; what insert and the check of runs say are contracts. -/
import Derived.Test.YtnajbkccaclkcaaGreatIM18
import Derived.Test.YtnajbkccaclkcaaGreatIM19
import Derived.Test.YtnajbkccaclkcaaGreatIM23
import Derived.Test.YtnajbkccaclkcaaGreatIM21
import Derived.Test.YtnajbkccaclkcaaGreatIM5
import Derived.Test.YtnajbkccaclkcaaGreatIM2
import Derived.Test.YtnajbkccaclkcaaGreatIM22
namespace Go.Proofs.YtnajbkccaclkcaaGreat
open Go Go.RowKit

set_option maxRecDepth 100000 in
theorem RSite_any (n : Int) (w : World) : Calls Tryz.prog 101 #[.int .i64 n] w (BoolPost w (siteB n)) := by
  unfold siteB
  by_cases h1 : 1 ≤ n
  · by_cases h2 : n ≤ 16
    · rw [decide_eq_true ⟨h1, h2⟩]
      go_enter Tryz.func101, Tryz.ntmps101
      go_wp2
      go_ret
      exact ⟨rfl, Kept.refl _ _⟩
    · rw [decide_eq_false (by omega)]
      go_enter Tryz.func101, Tryz.ntmps101
      go_wp2
      go_ret
      exact ⟨rfl, Kept.refl _ _⟩
  · rw [decide_eq_false (by omega)]
    go_enter Tryz.func101, Tryz.ntmps101
    go_wp2
    go_ret
    exact ⟨rfl, Kept.refl _ _⟩
/-- What an insert's walk may call: the text is good (g), has n runes; e is the last identifier; y, y' say whether it and the reference are identifiers; x8: no reference. -/
structure RInsF (it is rt rs : Int) (text : ByteArray) (g : Bool) (n : Nat) (et es : Int) (y y' x8 : Bool) : Prop where
  good : ∀ W, Calls Tryz.prog 109 #[.string text] W (BoolPost W g)
  cnt : ∀ W, Calls Tryz.prog 92 #[.string text] W (IntPost W n)
  after : ∀ W, Calls Tryz.prog 110 #[.agg #[.int .i64 it, .int .i64 is], .int .i64 ((n : Int) - 1)] W (OfPost W (.agg #[.int .i64 et, .int .i64 es]))
  i1 : ∀ W, Calls Tryz.prog 111 #[.agg #[.int .i64 et, .int .i64 es]] W (BoolPost W y)
  i2 : ∀ W, Calls Tryz.prog 111 #[.agg #[.int .i64 rt, .int .i64 rs]] W (BoolPost W y')
  q8 : ∀ W, (binOp .eql 61 (.agg #[.int .i64 rt, .int .i64 rs]) (.agg #[.int .i64 0, .int .i64 0])).run Tryz.prog W = .ok (.bool x8) W
/-- An operation in its box, ahead of whatever is done. -/
structure BK (w : World) (g : Nat) (cs : Array Value) (W : World) : Prop where
  b : Box W g 64 cs
  k : Kept (fun _ => False) w W
theorem BK.fresh {w W W' : World} {g : Nat} {cs : Array Value} (h : BK w g cs W) (hk : Kept (fun _ => False) W W') : BK w g cs W' := ⟨h.b.kept hk id, h.k.trans hk fun _ _ e => e⟩
theorem BK.S {w W : World} {g : Nat} {ds dq kind it is rt rs site : Int} {dl : Nat} {text : ByteArray} {dA gA : Option Addr} {dc gl gc : Nat} (h : BK w g #[.int .i64 ds, .int .i64 dq, .slice dA dl dc, .int .i64 kind, .int .i64 it, .int .i64 is, .int .i64 rt, .int .i64 rs, .string text, .slice gA gl gc, .int .i64 site] W) :
    W.cell? ⟨g, 0, none⟩ = some (.int .i64 ds) ∧ W.cell? ⟨g, 1, none⟩ = some (.int .i64 dq) ∧ W.cell? ⟨g, 2, none⟩ = some (.slice dA dl dc) ∧ W.cell? ⟨g, 3, none⟩ = some (.int .i64 kind) ∧ W.cell? ⟨g, 4, none⟩ = some (.int .i64 it) ∧ W.cell? ⟨g, 5, none⟩ = some (.int .i64 is) ∧
    W.cell? ⟨g, 6, none⟩ = some (.int .i64 rt) ∧ W.cell? ⟨g, 7, none⟩ = some (.int .i64 rs) ∧ W.cell? ⟨g, 8, none⟩ = some (.string text) ∧ W.cell? ⟨g, 9, none⟩ = some (.slice gA gl gc) ∧ W.cell? ⟨g, 10, none⟩ = some (.int .i64 site) :=
  ⟨h.b.cell 0, h.b.cell 1, h.b.cell 2, h.b.cell 3, h.b.cell 4, h.b.cell 5, h.b.cell 6, h.b.cell 7, h.b.cell 8, h.b.cell 9, h.b.cell 10⟩
set_option maxRecDepth 100000 in
set_option maxHeartbeats 3200000 in
theorem rin_1 (ds dq kind it is rt rs site : Int) (dl : Nat) (text : ByteArray) (dA gA : Option Addr) (dc gc gl : Nat) (n : Nat) (et es : Int) (g y y' x8 : Bool) (w : World)
    (_HI : Hid (RInsF it is rt rs text g n et es y y' x8)) (hgl : 0 < gl) :
    Calls Tryz.prog 102 #[.agg #[.int .i64 ds, .int .i64 dq, .slice dA dl dc, .int .i64 kind, .int .i64 it, .int .i64 is, .int .i64 rt, .int .i64 rs, .string text, .slice gA gl gc, .int .i64 site]] w (BoolPost w false) := by
  have HZ := Lib.hid (show BK w w.heap.size #[.int .i64 ds, .int .i64 dq, .slice dA dl dc, .int .i64 kind, .int .i64 it, .int .i64 is, .int .i64 rt, .int .i64 rs, .string text, .slice gA gl gc, .int .i64 site] (w.alloc (.cells #[.int .i64 ds, .int .i64 dq, .slice dA dl dc, .int .i64 kind, .int .i64 it, .int .i64 is, .int .i64 rt, .int .i64 rs, .string text, .slice gA gl gc, .int .i64 site] 64)) from ⟨Box.new w _ _, (Kept.refl _ _).alloc _⟩)
  go_enter Tryz.func102, Tryz.ntmps102
  obtain ⟨c0, c1, c2, c3, c4, c5, c6, c7, c8, c9, c10⟩ := HZ.out.S
  go_wp2
  go_ret
  exact ⟨rfl, HZ.out.k⟩
set_option maxRecDepth 100000 in
set_option maxHeartbeats 3200000 in
theorem rin_2 (ds dq kind it is rt rs site : Int) (dl : Nat) (text : ByteArray) (dA gA : Option Addr) (dc gc : Nat) (n : Nat) (et es : Int) (g y y' x8 : Bool) (w : World)
    (_HI : Hid (RInsF it is rt rs text g n et es y y' x8)) (hsi : site ≠ 0) :
    Calls Tryz.prog 102 #[.agg #[.int .i64 ds, .int .i64 dq, .slice dA dl dc, .int .i64 kind, .int .i64 it, .int .i64 is, .int .i64 rt, .int .i64 rs, .string text, .slice gA 0 gc, .int .i64 site]] w (BoolPost w false) := by
  have hs' : (site == 0) = false := beq_eq_false_iff_ne.mpr hsi
  have HZ := Lib.hid (show BK w w.heap.size #[.int .i64 ds, .int .i64 dq, .slice dA dl dc, .int .i64 kind, .int .i64 it, .int .i64 is, .int .i64 rt, .int .i64 rs, .string text, .slice gA 0 gc, .int .i64 site] (w.alloc (.cells #[.int .i64 ds, .int .i64 dq, .slice dA dl dc, .int .i64 kind, .int .i64 it, .int .i64 is, .int .i64 rt, .int .i64 rs, .string text, .slice gA 0 gc, .int .i64 site] 64)) from ⟨Box.new w _ _, (Kept.refl _ _).alloc _⟩)
  go_enter Tryz.func102, Tryz.ntmps102
  obtain ⟨c0, c1, c2, c3, c4, c5, c6, c7, c8, c9, c10⟩ := HZ.out.S
  go_wp2
  go_ret
  exact ⟨rfl, HZ.out.k⟩
set_option maxRecDepth 100000 in
set_option maxHeartbeats 3200000 in
theorem rin_3 (ds dq kind it is rt rs : Int) (dl : Nat) (text : ByteArray) (dA gA : Option Addr) (dc gc : Nat) (n : Nat) (et es : Int) (g y y' x8 : Bool) (w : World)
    (_HI : Hid (RInsF it is rt rs text g n et es y y' x8)) (h3 : text.toList = []) :
    Calls Tryz.prog 102 #[.agg #[.int .i64 ds, .int .i64 dq, .slice dA dl dc, .int .i64 kind, .int .i64 it, .int .i64 is, .int .i64 rt, .int .i64 rs, .string text, .slice gA 0 gc, .int .i64 0]] w (BoolPost w false) := by
  have HZ := Lib.hid (show BK w w.heap.size #[.int .i64 ds, .int .i64 dq, .slice dA dl dc, .int .i64 kind, .int .i64 it, .int .i64 is, .int .i64 rt, .int .i64 rs, .string text, .slice gA 0 gc, .int .i64 0] (w.alloc (.cells #[.int .i64 ds, .int .i64 dq, .slice dA dl dc, .int .i64 kind, .int .i64 it, .int .i64 is, .int .i64 rt, .int .i64 rs, .string text, .slice gA 0 gc, .int .i64 0] 64)) from ⟨Box.new w _ _, (Kept.refl _ _).alloc _⟩)
  go_enter Tryz.func102, Tryz.ntmps102
  obtain ⟨c0, c1, c2, c3, c4, c5, c6, c7, c8, c9, c10⟩ := HZ.out.S
  go_wp2_with (fail)
  all_goals first | exact absurd h3 ‹¬ text.toList = []› | skip
  go_ret
  exact ⟨rfl, HZ.out.k⟩
set_option maxRecDepth 100000 in
set_option maxHeartbeats 3200000 in
theorem rin_4 (ds dq kind it is rt rs : Int) (dl : Nat) (text : ByteArray) (dA gA : Option Addr) (dc gc : Nat) (n : Nat) (et es : Int) (g y y' x8 : Bool) (w : World)
    (HI : Hid (RInsF it is rt rs text g n et es y y' x8)) (h3 : ¬ text.toList = []) (h4 : g = false) :
    Calls Tryz.prog 102 #[.agg #[.int .i64 ds, .int .i64 dq, .slice dA dl dc, .int .i64 kind, .int .i64 it, .int .i64 is, .int .i64 rt, .int .i64 rs, .string text, .slice gA 0 gc, .int .i64 0]] w (BoolPost w false) := by
  subst h4
  have HZ := Lib.hid (show BK w w.heap.size #[.int .i64 ds, .int .i64 dq, .slice dA dl dc, .int .i64 kind, .int .i64 it, .int .i64 is, .int .i64 rt, .int .i64 rs, .string text, .slice gA 0 gc, .int .i64 0] (w.alloc (.cells #[.int .i64 ds, .int .i64 dq, .slice dA dl dc, .int .i64 kind, .int .i64 it, .int .i64 is, .int .i64 rt, .int .i64 rs, .string text, .slice gA 0 gc, .int .i64 0] 64)) from ⟨Box.new w _ _, (Kept.refl _ _).alloc _⟩)
  go_enter Tryz.func102, Tryz.ntmps102
  obtain ⟨c0, c1, c2, c3, c4, c5, c6, c7, c8, c9, c10⟩ := HZ.out.S
  go_wp2_with (fail)
  all_goals first | exact absurd ‹text.toList = []› h3 | exact absurd (List.isEmpty_iff.1 ‹text.toList.isEmpty = true›) h3 | skip
  refine (HI.out.good _).mono ?_
  unfold BoolPost
  rintro e w1 ⟨rfl, hk⟩
  have HZ1 := Lib.hid (HZ.out.fresh hk)
  clear hk HZ c0 c1 c2 c3 c4 c5 c6 c7 c8 c9 c10
  obtain ⟨c0, c1, c2, c3, c4, c5, c6, c7, c8, c9, c10⟩ := HZ1.out.S
  go_wp2
  go_ret
  exact ⟨rfl, HZ1.out.k⟩
set_option maxRecDepth 100000 in
set_option maxHeartbeats 3200000 in
theorem rin_5 (ds dq kind it is rt rs : Int) (dl : Nat) (text : ByteArray) (dA gA : Option Addr) (dc gc : Nat) (n : Nat) (et es : Int) (g y y' x8 : Bool) (w : World)
    (HI : Hid (RInsF it is rt rs text g n et es y y' x8)) (hn0 : 0 < n) (hnn : n ≤ 1000000) (h3 : ¬ text.toList = []) (h4 : g = true) (h5 : 1024 < n) :
    Calls Tryz.prog 102 #[.agg #[.int .i64 ds, .int .i64 dq, .slice dA dl dc, .int .i64 kind, .int .i64 it, .int .i64 is, .int .i64 rt, .int .i64 rs, .string text, .slice gA 0 gc, .int .i64 0]] w (BoolPost w false) := by
  subst h4
  have hwr : IntKind.i64.wrap ((n : Int) - 1) = (n : Int) - 1 := IntWalk.i64_in _ ⟨by omega, by omega⟩
  have HZ := Lib.hid (show BK w w.heap.size #[.int .i64 ds, .int .i64 dq, .slice dA dl dc, .int .i64 kind, .int .i64 it, .int .i64 is, .int .i64 rt, .int .i64 rs, .string text, .slice gA 0 gc, .int .i64 0] (w.alloc (.cells #[.int .i64 ds, .int .i64 dq, .slice dA dl dc, .int .i64 kind, .int .i64 it, .int .i64 is, .int .i64 rt, .int .i64 rs, .string text, .slice gA 0 gc, .int .i64 0] 64)) from ⟨Box.new w _ _, (Kept.refl _ _).alloc _⟩)
  go_enter Tryz.func102, Tryz.ntmps102
  obtain ⟨c0, c1, c2, c3, c4, c5, c6, c7, c8, c9, c10⟩ := HZ.out.S
  go_wp2_with (fail)
  all_goals first | exact absurd ‹text.toList = []› h3 | exact absurd (List.isEmpty_iff.1 ‹text.toList.isEmpty = true›) h3 | skip
  refine (HI.out.good _).mono ?_
  unfold BoolPost
  rintro e w1 ⟨rfl, hk⟩
  have HZ1 := Lib.hid (HZ.out.fresh hk)
  clear hk HZ c0 c1 c2 c3 c4 c5 c6 c7 c8 c9 c10
  obtain ⟨c0, c1, c2, c3, c4, c5, c6, c7, c8, c9, c10⟩ := HZ1.out.S
  go_wp2_with (fail)
  all_goals first | exact absurd ‹text.toList = []› h3 | exact absurd (List.isEmpty_iff.1 ‹text.toList.isEmpty = true›) h3 | skip
  refine (HI.out.cnt _).mono ?_
  unfold IntPost
  rintro e w2 ⟨rfl, hk⟩
  have HZ2 := Lib.hid (HZ1.out.fresh hk)
  clear hk HZ1 c0 c1 c2 c3 c4 c5 c6 c7 c8 c9 c10
  obtain ⟨c0, c1, c2, c3, c4, c5, c6, c7, c8, c9, c10⟩ := HZ2.out.S
  go_wp2_with (fail)
  refine (HI.out.after _).mono ?_
  unfold OfPost
  rintro e w3 ⟨rfl, hk⟩
  have HZ3 := Lib.hid ((HZ2.out.fresh hk).fresh ((Kept.refl _ _).alloc (.cells #[.int .i64 et, .int .i64 es] 61)))
  have l0 := (Box.new w3 61 #[.int .i64 et, .int .i64 es]).cell 0
  have l1 := (Box.new w3 61 #[.int .i64 et, .int .i64 es]).cell 1
  simp only [List.getElem?_toArray, List.getElem?_cons_succ, List.getElem?_cons_zero] at l0 l1
  clear hk HZ2 c0 c1 c2 c3 c4 c5 c6 c7 c8 c9 c10
  obtain ⟨c0, c1, c2, c3, c4, c5, c6, c7, c8, c9, c10⟩ := HZ3.out.S
  go_wp2
  go_ret
  exact ⟨rfl, HZ3.out.k⟩
set_option maxRecDepth 100000 in
set_option maxHeartbeats 3200000 in
theorem rin_6 (ds dq kind it is rt rs : Int) (dl : Nat) (text : ByteArray) (dA gA : Option Addr) (dc gc : Nat) (n : Nat) (et es : Int) (g y y' x8 : Bool) (w : World)
    (HI : Hid (RInsF it is rt rs text g n et es y y' x8)) (hn0 : 0 < n) (hnn : n ≤ 1000000) (h3 : ¬ text.toList = []) (h4 : g = true) (h5 : n ≤ 1024) (h6 : is ≠ ds) :
    Calls Tryz.prog 102 #[.agg #[.int .i64 ds, .int .i64 dq, .slice dA dl dc, .int .i64 kind, .int .i64 it, .int .i64 is, .int .i64 rt, .int .i64 rs, .string text, .slice gA 0 gc, .int .i64 0]] w (BoolPost w false) := by
  subst h4
  have h6' : (is == ds) = false := beq_eq_false_iff_ne.mpr h6
  have hwr : IntKind.i64.wrap ((n : Int) - 1) = (n : Int) - 1 := IntWalk.i64_in _ ⟨by omega, by omega⟩
  have HZ := Lib.hid (show BK w w.heap.size #[.int .i64 ds, .int .i64 dq, .slice dA dl dc, .int .i64 kind, .int .i64 it, .int .i64 is, .int .i64 rt, .int .i64 rs, .string text, .slice gA 0 gc, .int .i64 0] (w.alloc (.cells #[.int .i64 ds, .int .i64 dq, .slice dA dl dc, .int .i64 kind, .int .i64 it, .int .i64 is, .int .i64 rt, .int .i64 rs, .string text, .slice gA 0 gc, .int .i64 0] 64)) from ⟨Box.new w _ _, (Kept.refl _ _).alloc _⟩)
  go_enter Tryz.func102, Tryz.ntmps102
  obtain ⟨c0, c1, c2, c3, c4, c5, c6, c7, c8, c9, c10⟩ := HZ.out.S
  go_wp2_with (fail)
  all_goals first | exact absurd ‹text.toList = []› h3 | exact absurd (List.isEmpty_iff.1 ‹text.toList.isEmpty = true›) h3 | skip
  refine (HI.out.good _).mono ?_
  unfold BoolPost
  rintro e w1 ⟨rfl, hk⟩
  have HZ1 := Lib.hid (HZ.out.fresh hk)
  clear hk HZ c0 c1 c2 c3 c4 c5 c6 c7 c8 c9 c10
  obtain ⟨c0, c1, c2, c3, c4, c5, c6, c7, c8, c9, c10⟩ := HZ1.out.S
  go_wp2_with (fail)
  all_goals first | exact absurd ‹text.toList = []› h3 | exact absurd (List.isEmpty_iff.1 ‹text.toList.isEmpty = true›) h3 | skip
  refine (HI.out.cnt _).mono ?_
  unfold IntPost
  rintro e w2 ⟨rfl, hk⟩
  have HZ2 := Lib.hid (HZ1.out.fresh hk)
  clear hk HZ1 c0 c1 c2 c3 c4 c5 c6 c7 c8 c9 c10
  obtain ⟨c0, c1, c2, c3, c4, c5, c6, c7, c8, c9, c10⟩ := HZ2.out.S
  go_wp2_with (fail)
  refine (HI.out.after _).mono ?_
  unfold OfPost
  rintro e w3 ⟨rfl, hk⟩
  have HZ3 := Lib.hid ((HZ2.out.fresh hk).fresh ((Kept.refl _ _).alloc (.cells #[.int .i64 et, .int .i64 es] 61)))
  have l0 := (Box.new w3 61 #[.int .i64 et, .int .i64 es]).cell 0
  have l1 := (Box.new w3 61 #[.int .i64 et, .int .i64 es]).cell 1
  simp only [List.getElem?_toArray, List.getElem?_cons_succ, List.getElem?_cons_zero] at l0 l1
  clear hk HZ2 c0 c1 c2 c3 c4 c5 c6 c7 c8 c9 c10
  obtain ⟨c0, c1, c2, c3, c4, c5, c6, c7, c8, c9, c10⟩ := HZ3.out.S
  go_wp2
  go_ret
  exact ⟨rfl, HZ3.out.k⟩
set_option maxRecDepth 100000 in
set_option maxHeartbeats 3200000 in
theorem rin_7 (ds dq kind it is rt rs : Int) (dl : Nat) (text : ByteArray) (dA gA : Option Addr) (dc gc : Nat) (n : Nat) (et es : Int) (g y y' x8 : Bool) (w : World)
    (HI : Hid (RInsF it is rt rs text g n et es y y' x8)) (hn0 : 0 < n) (hnn : n ≤ 1000000) (h3 : ¬ text.toList = []) (h4 : g = true) (h5 : n ≤ 1024) (h6 : is = ds) (h7 : y = false) :
    Calls Tryz.prog 102 #[.agg #[.int .i64 ds, .int .i64 dq, .slice dA dl dc, .int .i64 kind, .int .i64 it, .int .i64 is, .int .i64 rt, .int .i64 rs, .string text, .slice gA 0 gc, .int .i64 0]] w (BoolPost w false) := by
  subst h4
  have h6' : (is == ds) = true := by rw [h6]; exact beq_self_eq_true ds
  clear h6
  subst h7
  have hwr : IntKind.i64.wrap ((n : Int) - 1) = (n : Int) - 1 := IntWalk.i64_in _ ⟨by omega, by omega⟩
  have HZ := Lib.hid (show BK w w.heap.size #[.int .i64 ds, .int .i64 dq, .slice dA dl dc, .int .i64 kind, .int .i64 it, .int .i64 is, .int .i64 rt, .int .i64 rs, .string text, .slice gA 0 gc, .int .i64 0] (w.alloc (.cells #[.int .i64 ds, .int .i64 dq, .slice dA dl dc, .int .i64 kind, .int .i64 it, .int .i64 is, .int .i64 rt, .int .i64 rs, .string text, .slice gA 0 gc, .int .i64 0] 64)) from ⟨Box.new w _ _, (Kept.refl _ _).alloc _⟩)
  go_enter Tryz.func102, Tryz.ntmps102
  obtain ⟨c0, c1, c2, c3, c4, c5, c6, c7, c8, c9, c10⟩ := HZ.out.S
  go_wp2_with (fail)
  all_goals first | exact absurd ‹text.toList = []› h3 | exact absurd (List.isEmpty_iff.1 ‹text.toList.isEmpty = true›) h3 | skip
  refine (HI.out.good _).mono ?_
  unfold BoolPost
  rintro e w1 ⟨rfl, hk⟩
  have HZ1 := Lib.hid (HZ.out.fresh hk)
  clear hk HZ c0 c1 c2 c3 c4 c5 c6 c7 c8 c9 c10
  obtain ⟨c0, c1, c2, c3, c4, c5, c6, c7, c8, c9, c10⟩ := HZ1.out.S
  go_wp2_with (fail)
  all_goals first | exact absurd ‹text.toList = []› h3 | exact absurd (List.isEmpty_iff.1 ‹text.toList.isEmpty = true›) h3 | skip
  refine (HI.out.cnt _).mono ?_
  unfold IntPost
  rintro e w2 ⟨rfl, hk⟩
  have HZ2 := Lib.hid (HZ1.out.fresh hk)
  clear hk HZ1 c0 c1 c2 c3 c4 c5 c6 c7 c8 c9 c10
  obtain ⟨c0, c1, c2, c3, c4, c5, c6, c7, c8, c9, c10⟩ := HZ2.out.S
  go_wp2_with (fail)
  refine (HI.out.after _).mono ?_
  unfold OfPost
  rintro e w3 ⟨rfl, hk⟩
  have HZ3 := Lib.hid ((HZ2.out.fresh hk).fresh ((Kept.refl _ _).alloc (.cells #[.int .i64 et, .int .i64 es] 61)))
  have l0 := (Box.new w3 61 #[.int .i64 et, .int .i64 es]).cell 0
  have l1 := (Box.new w3 61 #[.int .i64 et, .int .i64 es]).cell 1
  simp only [List.getElem?_toArray, List.getElem?_cons_succ, List.getElem?_cons_zero] at l0 l1
  clear hk HZ2 c0 c1 c2 c3 c4 c5 c6 c7 c8 c9 c10
  obtain ⟨c0, c1, c2, c3, c4, c5, c6, c7, c8, c9, c10⟩ := HZ3.out.S
  go_wp2_with (fail)
  refine (HI.out.i1 _).mono ?_
  unfold BoolPost
  rintro e w4 ⟨rfl, hk⟩
  have HZ4 := Lib.hid (HZ3.out.fresh hk)
  clear hk HZ3 c0 c1 c2 c3 c4 c5 c6 c7 c8 c9 c10
  obtain ⟨c0, c1, c2, c3, c4, c5, c6, c7, c8, c9, c10⟩ := HZ4.out.S
  go_wp2
  go_ret
  exact ⟨rfl, HZ4.out.k⟩
set_option maxRecDepth 100000 in
set_option maxHeartbeats 3200000 in
theorem rin_8 (ds dq kind it is rt rs : Int) (dl : Nat) (text : ByteArray) (dA gA : Option Addr) (dc gc : Nat) (n : Nat) (et es : Int) (g y y' x8 : Bool) (w : World)
    (HI : Hid (RInsF it is rt rs text g n et es y y' x8)) (hn0 : 0 < n) (hnn : n ≤ 1000000) (h3 : ¬ text.toList = []) (h4 : g = true) (h5 : n ≤ 1024) (h6 : is = ds) (h7 : y = true) (h8 : x8 = false) (h9 : y' = false) :
    Calls Tryz.prog 102 #[.agg #[.int .i64 ds, .int .i64 dq, .slice dA dl dc, .int .i64 kind, .int .i64 it, .int .i64 is, .int .i64 rt, .int .i64 rs, .string text, .slice gA 0 gc, .int .i64 0]] w (BoolPost w false) := by
  subst h4
  have h6' : (is == ds) = true := by rw [h6]; exact beq_self_eq_true ds
  clear h6
  subst h7
  have q8 := HI.out.q8
  rw [h8] at q8
  clear h8
  subst h9
  have hwr : IntKind.i64.wrap ((n : Int) - 1) = (n : Int) - 1 := IntWalk.i64_in _ ⟨by omega, by omega⟩
  have HZ := Lib.hid (show BK w w.heap.size #[.int .i64 ds, .int .i64 dq, .slice dA dl dc, .int .i64 kind, .int .i64 it, .int .i64 is, .int .i64 rt, .int .i64 rs, .string text, .slice gA 0 gc, .int .i64 0] (w.alloc (.cells #[.int .i64 ds, .int .i64 dq, .slice dA dl dc, .int .i64 kind, .int .i64 it, .int .i64 is, .int .i64 rt, .int .i64 rs, .string text, .slice gA 0 gc, .int .i64 0] 64)) from ⟨Box.new w _ _, (Kept.refl _ _).alloc _⟩)
  go_enter Tryz.func102, Tryz.ntmps102
  obtain ⟨c0, c1, c2, c3, c4, c5, c6, c7, c8, c9, c10⟩ := HZ.out.S
  go_wp2_with (fail)
  all_goals first | exact absurd ‹text.toList = []› h3 | exact absurd (List.isEmpty_iff.1 ‹text.toList.isEmpty = true›) h3 | skip
  refine (HI.out.good _).mono ?_
  unfold BoolPost
  rintro e w1 ⟨rfl, hk⟩
  have HZ1 := Lib.hid (HZ.out.fresh hk)
  clear hk HZ c0 c1 c2 c3 c4 c5 c6 c7 c8 c9 c10
  obtain ⟨c0, c1, c2, c3, c4, c5, c6, c7, c8, c9, c10⟩ := HZ1.out.S
  go_wp2_with (fail)
  all_goals first | exact absurd ‹text.toList = []› h3 | exact absurd (List.isEmpty_iff.1 ‹text.toList.isEmpty = true›) h3 | skip
  refine (HI.out.cnt _).mono ?_
  unfold IntPost
  rintro e w2 ⟨rfl, hk⟩
  have HZ2 := Lib.hid (HZ1.out.fresh hk)
  clear hk HZ1 c0 c1 c2 c3 c4 c5 c6 c7 c8 c9 c10
  obtain ⟨c0, c1, c2, c3, c4, c5, c6, c7, c8, c9, c10⟩ := HZ2.out.S
  go_wp2_with (fail)
  refine (HI.out.after _).mono ?_
  unfold OfPost
  rintro e w3 ⟨rfl, hk⟩
  have HZ3 := Lib.hid ((HZ2.out.fresh hk).fresh ((Kept.refl _ _).alloc (.cells #[.int .i64 et, .int .i64 es] 61)))
  have l0 := (Box.new w3 61 #[.int .i64 et, .int .i64 es]).cell 0
  have l1 := (Box.new w3 61 #[.int .i64 et, .int .i64 es]).cell 1
  simp only [List.getElem?_toArray, List.getElem?_cons_succ, List.getElem?_cons_zero] at l0 l1
  clear hk HZ2 c0 c1 c2 c3 c4 c5 c6 c7 c8 c9 c10
  obtain ⟨c0, c1, c2, c3, c4, c5, c6, c7, c8, c9, c10⟩ := HZ3.out.S
  go_wp2_with (fail)
  refine (HI.out.i1 _).mono ?_
  unfold BoolPost
  rintro e w4 ⟨rfl, hk⟩
  have HZ4 := Lib.hid (HZ3.out.fresh hk)
  clear hk HZ3 c0 c1 c2 c3 c4 c5 c6 c7 c8 c9 c10
  obtain ⟨c0, c1, c2, c3, c4, c5, c6, c7, c8, c9, c10⟩ := HZ4.out.S
  go_wp2_with (fail)
  refine (HI.out.i2 _).mono ?_
  unfold BoolPost
  rintro e w5 ⟨rfl, hk⟩
  have HZ5 := Lib.hid (HZ4.out.fresh hk)
  clear hk HZ4 c0 c1 c2 c3 c4 c5 c6 c7 c8 c9 c10
  obtain ⟨c0, c1, c2, c3, c4, c5, c6, c7, c8, c9, c10⟩ := HZ5.out.S
  go_wp2
  go_ret
  exact ⟨rfl, HZ5.out.k⟩
set_option maxRecDepth 100000 in
set_option maxHeartbeats 3200000 in
theorem rin_9 (ds dq kind it is rt rs : Int) (dl : Nat) (text : ByteArray) (dA gA : Option Addr) (dc gc : Nat) (n : Nat) (et es : Int) (g y y' x8 : Bool) (w : World)
    (HI : Hid (RInsF it is rt rs text g n et es y y' x8)) (hn0 : 0 < n) (hnn : n ≤ 1000000) (h3 : ¬ text.toList = []) (h4 : g = true) (h5 : n ≤ 1024) (h6 : is = ds) (h7 : y = true) (h8 : x8 = true) (h10 : it ≤ rt) :
    Calls Tryz.prog 102 #[.agg #[.int .i64 ds, .int .i64 dq, .slice dA dl dc, .int .i64 kind, .int .i64 it, .int .i64 is, .int .i64 rt, .int .i64 rs, .string text, .slice gA 0 gc, .int .i64 0]] w (BoolPost w false) := by
  subst h4
  have h6' : (is == ds) = true := by rw [h6]; exact beq_self_eq_true ds
  clear h6
  subst h7
  have q8 := HI.out.q8
  rw [h8] at q8
  clear h8
  have hd : decide (rt < it) = false := decide_eq_false (Int.not_lt.2 h10)
  have hwr : IntKind.i64.wrap ((n : Int) - 1) = (n : Int) - 1 := IntWalk.i64_in _ ⟨by omega, by omega⟩
  have HZ := Lib.hid (show BK w w.heap.size #[.int .i64 ds, .int .i64 dq, .slice dA dl dc, .int .i64 kind, .int .i64 it, .int .i64 is, .int .i64 rt, .int .i64 rs, .string text, .slice gA 0 gc, .int .i64 0] (w.alloc (.cells #[.int .i64 ds, .int .i64 dq, .slice dA dl dc, .int .i64 kind, .int .i64 it, .int .i64 is, .int .i64 rt, .int .i64 rs, .string text, .slice gA 0 gc, .int .i64 0] 64)) from ⟨Box.new w _ _, (Kept.refl _ _).alloc _⟩)
  go_enter Tryz.func102, Tryz.ntmps102
  obtain ⟨c0, c1, c2, c3, c4, c5, c6, c7, c8, c9, c10⟩ := HZ.out.S
  go_wp2_with (fail)
  all_goals first | exact absurd ‹text.toList = []› h3 | exact absurd (List.isEmpty_iff.1 ‹text.toList.isEmpty = true›) h3 | skip
  refine (HI.out.good _).mono ?_
  unfold BoolPost
  rintro e w1 ⟨rfl, hk⟩
  have HZ1 := Lib.hid (HZ.out.fresh hk)
  clear hk HZ c0 c1 c2 c3 c4 c5 c6 c7 c8 c9 c10
  obtain ⟨c0, c1, c2, c3, c4, c5, c6, c7, c8, c9, c10⟩ := HZ1.out.S
  go_wp2_with (fail)
  all_goals first | exact absurd ‹text.toList = []› h3 | exact absurd (List.isEmpty_iff.1 ‹text.toList.isEmpty = true›) h3 | skip
  refine (HI.out.cnt _).mono ?_
  unfold IntPost
  rintro e w2 ⟨rfl, hk⟩
  have HZ2 := Lib.hid (HZ1.out.fresh hk)
  clear hk HZ1 c0 c1 c2 c3 c4 c5 c6 c7 c8 c9 c10
  obtain ⟨c0, c1, c2, c3, c4, c5, c6, c7, c8, c9, c10⟩ := HZ2.out.S
  go_wp2_with (fail)
  refine (HI.out.after _).mono ?_
  unfold OfPost
  rintro e w3 ⟨rfl, hk⟩
  have HZ3 := Lib.hid ((HZ2.out.fresh hk).fresh ((Kept.refl _ _).alloc (.cells #[.int .i64 et, .int .i64 es] 61)))
  have l0 := (Box.new w3 61 #[.int .i64 et, .int .i64 es]).cell 0
  have l1 := (Box.new w3 61 #[.int .i64 et, .int .i64 es]).cell 1
  simp only [List.getElem?_toArray, List.getElem?_cons_succ, List.getElem?_cons_zero] at l0 l1
  clear hk HZ2 c0 c1 c2 c3 c4 c5 c6 c7 c8 c9 c10
  obtain ⟨c0, c1, c2, c3, c4, c5, c6, c7, c8, c9, c10⟩ := HZ3.out.S
  go_wp2_with (fail)
  refine (HI.out.i1 _).mono ?_
  unfold BoolPost
  rintro e w4 ⟨rfl, hk⟩
  have HZ4 := Lib.hid (HZ3.out.fresh hk)
  clear hk HZ3 c0 c1 c2 c3 c4 c5 c6 c7 c8 c9 c10
  obtain ⟨c0, c1, c2, c3, c4, c5, c6, c7, c8, c9, c10⟩ := HZ4.out.S
  go_wp2
  go_ret
  exact ⟨rfl, HZ4.out.k⟩
set_option maxRecDepth 100000 in
set_option maxHeartbeats 3200000 in
theorem rin_10 (ds dq kind it is rt rs : Int) (dl : Nat) (text : ByteArray) (dA gA : Option Addr) (dc gc : Nat) (n : Nat) (et es : Int) (g y y' x8 : Bool) (w : World)
    (HI : Hid (RInsF it is rt rs text g n et es y y' x8)) (hn0 : 0 < n) (hnn : n ≤ 1000000) (h3 : ¬ text.toList = []) (h4 : g = true) (h5 : n ≤ 1024) (h6 : is = ds) (h7 : y = true) (h8 : x8 = false) (h9 : y' = true) (h10 : it ≤ rt) :
    Calls Tryz.prog 102 #[.agg #[.int .i64 ds, .int .i64 dq, .slice dA dl dc, .int .i64 kind, .int .i64 it, .int .i64 is, .int .i64 rt, .int .i64 rs, .string text, .slice gA 0 gc, .int .i64 0]] w (BoolPost w false) := by
  subst h4
  have h6' : (is == ds) = true := by rw [h6]; exact beq_self_eq_true ds
  clear h6
  subst h7
  have q8 := HI.out.q8
  rw [h8] at q8
  clear h8
  subst h9
  have hd : decide (rt < it) = false := decide_eq_false (Int.not_lt.2 h10)
  have hwr : IntKind.i64.wrap ((n : Int) - 1) = (n : Int) - 1 := IntWalk.i64_in _ ⟨by omega, by omega⟩
  have HZ := Lib.hid (show BK w w.heap.size #[.int .i64 ds, .int .i64 dq, .slice dA dl dc, .int .i64 kind, .int .i64 it, .int .i64 is, .int .i64 rt, .int .i64 rs, .string text, .slice gA 0 gc, .int .i64 0] (w.alloc (.cells #[.int .i64 ds, .int .i64 dq, .slice dA dl dc, .int .i64 kind, .int .i64 it, .int .i64 is, .int .i64 rt, .int .i64 rs, .string text, .slice gA 0 gc, .int .i64 0] 64)) from ⟨Box.new w _ _, (Kept.refl _ _).alloc _⟩)
  go_enter Tryz.func102, Tryz.ntmps102
  obtain ⟨c0, c1, c2, c3, c4, c5, c6, c7, c8, c9, c10⟩ := HZ.out.S
  go_wp2_with (fail)
  all_goals first | exact absurd ‹text.toList = []› h3 | exact absurd (List.isEmpty_iff.1 ‹text.toList.isEmpty = true›) h3 | skip
  refine (HI.out.good _).mono ?_
  unfold BoolPost
  rintro e w1 ⟨rfl, hk⟩
  have HZ1 := Lib.hid (HZ.out.fresh hk)
  clear hk HZ c0 c1 c2 c3 c4 c5 c6 c7 c8 c9 c10
  obtain ⟨c0, c1, c2, c3, c4, c5, c6, c7, c8, c9, c10⟩ := HZ1.out.S
  go_wp2_with (fail)
  all_goals first | exact absurd ‹text.toList = []› h3 | exact absurd (List.isEmpty_iff.1 ‹text.toList.isEmpty = true›) h3 | skip
  refine (HI.out.cnt _).mono ?_
  unfold IntPost
  rintro e w2 ⟨rfl, hk⟩
  have HZ2 := Lib.hid (HZ1.out.fresh hk)
  clear hk HZ1 c0 c1 c2 c3 c4 c5 c6 c7 c8 c9 c10
  obtain ⟨c0, c1, c2, c3, c4, c5, c6, c7, c8, c9, c10⟩ := HZ2.out.S
  go_wp2_with (fail)
  refine (HI.out.after _).mono ?_
  unfold OfPost
  rintro e w3 ⟨rfl, hk⟩
  have HZ3 := Lib.hid ((HZ2.out.fresh hk).fresh ((Kept.refl _ _).alloc (.cells #[.int .i64 et, .int .i64 es] 61)))
  have l0 := (Box.new w3 61 #[.int .i64 et, .int .i64 es]).cell 0
  have l1 := (Box.new w3 61 #[.int .i64 et, .int .i64 es]).cell 1
  simp only [List.getElem?_toArray, List.getElem?_cons_succ, List.getElem?_cons_zero] at l0 l1
  clear hk HZ2 c0 c1 c2 c3 c4 c5 c6 c7 c8 c9 c10
  obtain ⟨c0, c1, c2, c3, c4, c5, c6, c7, c8, c9, c10⟩ := HZ3.out.S
  go_wp2_with (fail)
  refine (HI.out.i1 _).mono ?_
  unfold BoolPost
  rintro e w4 ⟨rfl, hk⟩
  have HZ4 := Lib.hid (HZ3.out.fresh hk)
  clear hk HZ3 c0 c1 c2 c3 c4 c5 c6 c7 c8 c9 c10
  obtain ⟨c0, c1, c2, c3, c4, c5, c6, c7, c8, c9, c10⟩ := HZ4.out.S
  go_wp2_with (fail)
  refine (HI.out.i2 _).mono ?_
  unfold BoolPost
  rintro e w5 ⟨rfl, hk⟩
  have HZ5 := Lib.hid (HZ4.out.fresh hk)
  clear hk HZ4 c0 c1 c2 c3 c4 c5 c6 c7 c8 c9 c10
  obtain ⟨c0, c1, c2, c3, c4, c5, c6, c7, c8, c9, c10⟩ := HZ5.out.S
  go_wp2
  go_ret
  exact ⟨rfl, HZ5.out.k⟩
set_option maxRecDepth 100000 in
set_option maxHeartbeats 3200000 in
theorem rin_11 (ds dq kind it is rt rs : Int) (dl : Nat) (text : ByteArray) (dA gA : Option Addr) (dc gc : Nat) (n : Nat) (et es : Int) (g y y' x8 : Bool) (w : World)
    (HI : Hid (RInsF it is rt rs text g n et es y y' x8)) (hn0 : 0 < n) (hnn : n ≤ 1000000) (h3 : ¬ text.toList = []) (h4 : g = true) (h5 : n ≤ 1024) (h6 : is = ds) (h7 : y = true) (h8 : x8 = true) (h10 : rt < it) :
    Calls Tryz.prog 102 #[.agg #[.int .i64 ds, .int .i64 dq, .slice dA dl dc, .int .i64 kind, .int .i64 it, .int .i64 is, .int .i64 rt, .int .i64 rs, .string text, .slice gA 0 gc, .int .i64 0]] w (BoolPost w true) := by
  subst h4
  have h6' : (is == ds) = true := by rw [h6]; exact beq_self_eq_true ds
  clear h6
  subst h7
  have q8 := HI.out.q8
  rw [h8] at q8
  clear h8
  have hd : decide (rt < it) = true := decide_eq_true h10
  have hwr : IntKind.i64.wrap ((n : Int) - 1) = (n : Int) - 1 := IntWalk.i64_in _ ⟨by omega, by omega⟩
  have HZ := Lib.hid (show BK w w.heap.size #[.int .i64 ds, .int .i64 dq, .slice dA dl dc, .int .i64 kind, .int .i64 it, .int .i64 is, .int .i64 rt, .int .i64 rs, .string text, .slice gA 0 gc, .int .i64 0] (w.alloc (.cells #[.int .i64 ds, .int .i64 dq, .slice dA dl dc, .int .i64 kind, .int .i64 it, .int .i64 is, .int .i64 rt, .int .i64 rs, .string text, .slice gA 0 gc, .int .i64 0] 64)) from ⟨Box.new w _ _, (Kept.refl _ _).alloc _⟩)
  go_enter Tryz.func102, Tryz.ntmps102
  obtain ⟨c0, c1, c2, c3, c4, c5, c6, c7, c8, c9, c10⟩ := HZ.out.S
  go_wp2_with (fail)
  all_goals first | exact absurd ‹text.toList = []› h3 | exact absurd (List.isEmpty_iff.1 ‹text.toList.isEmpty = true›) h3 | skip
  refine (HI.out.good _).mono ?_
  unfold BoolPost
  rintro e w1 ⟨rfl, hk⟩
  have HZ1 := Lib.hid (HZ.out.fresh hk)
  clear hk HZ c0 c1 c2 c3 c4 c5 c6 c7 c8 c9 c10
  obtain ⟨c0, c1, c2, c3, c4, c5, c6, c7, c8, c9, c10⟩ := HZ1.out.S
  go_wp2_with (fail)
  all_goals first | exact absurd ‹text.toList = []› h3 | exact absurd (List.isEmpty_iff.1 ‹text.toList.isEmpty = true›) h3 | skip
  refine (HI.out.cnt _).mono ?_
  unfold IntPost
  rintro e w2 ⟨rfl, hk⟩
  have HZ2 := Lib.hid (HZ1.out.fresh hk)
  clear hk HZ1 c0 c1 c2 c3 c4 c5 c6 c7 c8 c9 c10
  obtain ⟨c0, c1, c2, c3, c4, c5, c6, c7, c8, c9, c10⟩ := HZ2.out.S
  go_wp2_with (fail)
  refine (HI.out.after _).mono ?_
  unfold OfPost
  rintro e w3 ⟨rfl, hk⟩
  have HZ3 := Lib.hid ((HZ2.out.fresh hk).fresh ((Kept.refl _ _).alloc (.cells #[.int .i64 et, .int .i64 es] 61)))
  have l0 := (Box.new w3 61 #[.int .i64 et, .int .i64 es]).cell 0
  have l1 := (Box.new w3 61 #[.int .i64 et, .int .i64 es]).cell 1
  simp only [List.getElem?_toArray, List.getElem?_cons_succ, List.getElem?_cons_zero] at l0 l1
  clear hk HZ2 c0 c1 c2 c3 c4 c5 c6 c7 c8 c9 c10
  obtain ⟨c0, c1, c2, c3, c4, c5, c6, c7, c8, c9, c10⟩ := HZ3.out.S
  go_wp2_with (fail)
  refine (HI.out.i1 _).mono ?_
  unfold BoolPost
  rintro e w4 ⟨rfl, hk⟩
  have HZ4 := Lib.hid (HZ3.out.fresh hk)
  clear hk HZ3 c0 c1 c2 c3 c4 c5 c6 c7 c8 c9 c10
  obtain ⟨c0, c1, c2, c3, c4, c5, c6, c7, c8, c9, c10⟩ := HZ4.out.S
  go_wp2
  go_ret
  exact ⟨rfl, HZ4.out.k⟩
set_option maxRecDepth 100000 in
set_option maxHeartbeats 3200000 in
theorem rin_12 (ds dq kind it is rt rs : Int) (dl : Nat) (text : ByteArray) (dA gA : Option Addr) (dc gc : Nat) (n : Nat) (et es : Int) (g y y' x8 : Bool) (w : World)
    (HI : Hid (RInsF it is rt rs text g n et es y y' x8)) (hn0 : 0 < n) (hnn : n ≤ 1000000) (h3 : ¬ text.toList = []) (h4 : g = true) (h5 : n ≤ 1024) (h6 : is = ds) (h7 : y = true) (h8 : x8 = false) (h9 : y' = true) (h10 : rt < it) :
    Calls Tryz.prog 102 #[.agg #[.int .i64 ds, .int .i64 dq, .slice dA dl dc, .int .i64 kind, .int .i64 it, .int .i64 is, .int .i64 rt, .int .i64 rs, .string text, .slice gA 0 gc, .int .i64 0]] w (BoolPost w true) := by
  subst h4
  have h6' : (is == ds) = true := by rw [h6]; exact beq_self_eq_true ds
  clear h6
  subst h7
  have q8 := HI.out.q8
  rw [h8] at q8
  clear h8
  subst h9
  have hd : decide (rt < it) = true := decide_eq_true h10
  have hwr : IntKind.i64.wrap ((n : Int) - 1) = (n : Int) - 1 := IntWalk.i64_in _ ⟨by omega, by omega⟩
  have HZ := Lib.hid (show BK w w.heap.size #[.int .i64 ds, .int .i64 dq, .slice dA dl dc, .int .i64 kind, .int .i64 it, .int .i64 is, .int .i64 rt, .int .i64 rs, .string text, .slice gA 0 gc, .int .i64 0] (w.alloc (.cells #[.int .i64 ds, .int .i64 dq, .slice dA dl dc, .int .i64 kind, .int .i64 it, .int .i64 is, .int .i64 rt, .int .i64 rs, .string text, .slice gA 0 gc, .int .i64 0] 64)) from ⟨Box.new w _ _, (Kept.refl _ _).alloc _⟩)
  go_enter Tryz.func102, Tryz.ntmps102
  obtain ⟨c0, c1, c2, c3, c4, c5, c6, c7, c8, c9, c10⟩ := HZ.out.S
  go_wp2_with (fail)
  all_goals first | exact absurd ‹text.toList = []› h3 | exact absurd (List.isEmpty_iff.1 ‹text.toList.isEmpty = true›) h3 | skip
  refine (HI.out.good _).mono ?_
  unfold BoolPost
  rintro e w1 ⟨rfl, hk⟩
  have HZ1 := Lib.hid (HZ.out.fresh hk)
  clear hk HZ c0 c1 c2 c3 c4 c5 c6 c7 c8 c9 c10
  obtain ⟨c0, c1, c2, c3, c4, c5, c6, c7, c8, c9, c10⟩ := HZ1.out.S
  go_wp2_with (fail)
  all_goals first | exact absurd ‹text.toList = []› h3 | exact absurd (List.isEmpty_iff.1 ‹text.toList.isEmpty = true›) h3 | skip
  refine (HI.out.cnt _).mono ?_
  unfold IntPost
  rintro e w2 ⟨rfl, hk⟩
  have HZ2 := Lib.hid (HZ1.out.fresh hk)
  clear hk HZ1 c0 c1 c2 c3 c4 c5 c6 c7 c8 c9 c10
  obtain ⟨c0, c1, c2, c3, c4, c5, c6, c7, c8, c9, c10⟩ := HZ2.out.S
  go_wp2_with (fail)
  refine (HI.out.after _).mono ?_
  unfold OfPost
  rintro e w3 ⟨rfl, hk⟩
  have HZ3 := Lib.hid ((HZ2.out.fresh hk).fresh ((Kept.refl _ _).alloc (.cells #[.int .i64 et, .int .i64 es] 61)))
  have l0 := (Box.new w3 61 #[.int .i64 et, .int .i64 es]).cell 0
  have l1 := (Box.new w3 61 #[.int .i64 et, .int .i64 es]).cell 1
  simp only [List.getElem?_toArray, List.getElem?_cons_succ, List.getElem?_cons_zero] at l0 l1
  clear hk HZ2 c0 c1 c2 c3 c4 c5 c6 c7 c8 c9 c10
  obtain ⟨c0, c1, c2, c3, c4, c5, c6, c7, c8, c9, c10⟩ := HZ3.out.S
  go_wp2_with (fail)
  refine (HI.out.i1 _).mono ?_
  unfold BoolPost
  rintro e w4 ⟨rfl, hk⟩
  have HZ4 := Lib.hid (HZ3.out.fresh hk)
  clear hk HZ3 c0 c1 c2 c3 c4 c5 c6 c7 c8 c9 c10
  obtain ⟨c0, c1, c2, c3, c4, c5, c6, c7, c8, c9, c10⟩ := HZ4.out.S
  go_wp2_with (fail)
  refine (HI.out.i2 _).mono ?_
  unfold BoolPost
  rintro e w5 ⟨rfl, hk⟩
  have HZ5 := Lib.hid (HZ4.out.fresh hk)
  clear hk HZ4 c0 c1 c2 c3 c4 c5 c6 c7 c8 c9 c10
  obtain ⟨c0, c1, c2, c3, c4, c5, c6, c7, c8, c9, c10⟩ := HZ5.out.S
  go_wp2
  go_ret
  exact ⟨rfl, HZ5.out.k⟩
end Go.Proofs.YtnajbkccaclkcaaGreat

namespace Go.Proofs.YtnajbkccaclkcaaGreat
open Go Go.RowKit

theorem toList_nil (t : ByteArray) : t.toList = [] ↔ t = ⟨#[]⟩ := by
  have h := str_dec t ⟨#[]⟩
  have e : (⟨#[]⟩ : ByteArray).toList = [] := by kernel_rfl
  rw [e] at h
  constructor
  · intro hn
    rw [hn] at h
    exact of_decide_eq_true h.symm
  · rintro rfl
    exact e
theorem cnt_zero (t : ByteArray) : cnt t = 0 ↔ t.toList = [] := by
  rw [toList_nil]
  constructor
  · intro h
    obtain ⟨n, hn⟩ : ∃ n, t.size = n := ⟨_, rfl⟩
    unfold cnt cuts at h
    cases n with
    | zero =>
      obtain ⟨d⟩ := t
      have : d = #[] := Array.eq_empty_of_size_eq_zero hn
      rw [this]
    | succ n =>
      rw [hn, pcs, if_pos (by omega)] at h
      simp at h
  · rintro rfl
    kernel_rfl
theorem okId_after (i : Idt) (n : Int) : okId (afterI i n) = !decide (afterI i n = noId) := by
  unfold afterI
  split
  · rename_i h
    obtain ⟨h1, h2, h3⟩ := h
    rw [okId_iff] at h1
    have hk : okId ⟨i.time + n, i.site⟩ = true := (okId_iff ⟨i.time + n, i.site⟩).2 ⟨by show 1 ≤ i.time + n; omega, by show i.time + n ≤ 2147483647; omega, h1.2.2.1, h1.2.2.2⟩
    have hd : decide ((⟨i.time + n, i.site⟩ : Idt) = noId) = false := decide_eq_false fun e => by
      injection e with e1 e2
      omega
    rw [hk, hd]
    rfl
  · rw [decide_eq_true rfl]
    kernel_rfl
theorem okId_self (i : Idt) (h : ¬ i = noId) : okId i = decide (afterI i 0 = i) := by
  unfold afterI
  by_cases hk : okId i = true
  · have := (okId_iff i).1 hk
    rw [hk, if_pos ⟨rfl, by omega, by omega⟩, decide_eq_true]
    simp
  · rw [if_neg fun e => hk e.1, decide_eq_false fun e => h e.symm]
    simpa using hk
/-- The tests of an insert, in the reference's order. -/
theorem insB_ref (o : Opr) : insB o = (decide (o.gone.length = 0) && (decide (o.site = 0) && (decide (¬ o.text.toList = []) && (decide (badAt o.text < 0) && (decide (cnt o.text ≤ 1024) && (decide (o.id.site = o.dot.site) &&
    (okId (afterI o.id (cnt o.text - 1)) && ((decide (o.ref.time = 0 ∧ o.ref.site = 0) || okId o.ref) && decide (o.ref.time < o.id.time))))))))) := by
  have h1 : sameRest o.id o.ref o.text o.site o.id o.ref o.text 0 = decide (o.site = 0) := by simp [sameRest]
  have h2 : decide (0 < cnt o.text) = decide (¬ o.text.toList = []) := decide_eq_decide.2 (by rw [← cnt_zero]; omega)
  have h3 : decide (o.ref.time = 0 ∧ o.ref.site = 0) = decide (o.ref = noId) := id_dec o.ref noId
  have h4 : (decide (o.ref = noId) || decide (afterI o.ref 0 = o.ref)) = (decide (o.ref = noId) || okId o.ref) := by
    by_cases h : o.ref = noId
    · rw [decide_eq_true h, Bool.true_or, Bool.true_or]
    · rw [okId_self _ h]
  unfold insB
  rw [h1, h2, h3, h4, okId_after]
  rw [Bool.eq_iff_iff]
  simp only [Bool.and_eq_true]
  constructor
  · rintro ⟨a, b, c, d, e, f⟩; exact ⟨a, b, c, e, d, f⟩
  · rintro ⟨a, b, c, d, e, f⟩; exact ⟨a, b, c, e, d, f⟩
theorem RInsert_any (o : Opr) (dA gA : Option Addr) (dc gc : Nat) (w : World) (ht : o.text.size ≤ 1000000) :
    Calls Tryz.prog 102 #[.agg (o.cells dA dc gA gc)] w (BoolPost w (insB o)) := by
  rw [insB_ref]
  obtain ⟨⟨ds, dq⟩, deps, kind, ⟨it, is⟩, ⟨rt, rs⟩, text, gone, site⟩ := o
  simp only at ht
  unfold Opr.cells
  simp only
  have hnn : cnt text ≤ 1000000 := Nat.le_trans (cnt_le text) ht
  have HI := Lib.hid (show RInsF it is rt rs text (decide (badAt text < 0)) (cnt text) (afterI ⟨it, is⟩ (cnt text - 1)).time (afterI ⟨it, is⟩ (cnt text - 1)).site (okId (afterI ⟨it, is⟩ (cnt text - 1))) (okId ⟨rt, rs⟩) (decide (rt = 0 ∧ rs = 0)) from
    { good := fun W => Good_any text W ht, cnt := fun W => RCount_any text W ht, after := fun W => RAfter_any ⟨it, is⟩ ((cnt text : Int) - 1) W ⟨by omega, by omega⟩,
      i1 := fun W => IsID_any (afterI ⟨it, is⟩ (cnt text - 1)) W, i2 := fun W => IsID_any ⟨rt, rs⟩ W, q8 := fun W => eql_id _ _ _ _ W })
  have hz := cnt_zero text
  generalize okId (afterI ⟨it, is⟩ (cnt text - 1)) = y at HI ⊢
  generalize (afterI ⟨it, is⟩ (cnt text - 1)).time = et at HI
  generalize (afterI ⟨it, is⟩ (cnt text - 1)).site = es at HI
  generalize okId ⟨rt, rs⟩ = y' at HI ⊢
  generalize decide (rt = 0 ∧ rs = 0) = x8 at HI ⊢
  generalize decide (badAt text < 0) = g at HI ⊢
  generalize cnt text = n at *
  rcases Nat.eq_zero_or_pos gone.length with h0 | h0
  · rw [h0, decide_eq_true (rfl : (0 : Nat) = 0), Bool.true_and]
    by_cases hs : site = 0
    · subst hs
      rw [decide_eq_true (rfl : (0 : Int) = 0), Bool.true_and]
      by_cases h3 : text.toList = []
      · rw [decide_eq_false fun e => e h3, Bool.false_and]
        exact rin_3 ds dq kind it is rt rs deps.length text dA gA dc gc n et es g y y' x8 w HI h3
      · have hn0 : 0 < n := Nat.pos_of_ne_zero fun e => h3 (hz.1 e)
        rw [decide_eq_true h3, Bool.true_and]
        clear hz
        cases h4 : g with
        | false => exact rin_4 ds dq kind it is rt rs deps.length text dA gA dc gc n et es g y y' x8 w HI h3 h4
        | true =>
          rw [Bool.true_and]
          rcases Nat.lt_or_ge 1024 n with h5 | h5
          · rw [decide_eq_false (by omega), Bool.false_and]
            exact rin_5 ds dq kind it is rt rs deps.length text dA gA dc gc n et es g y y' x8 w HI hn0 hnn h3 h4 h5
          · rw [decide_eq_true h5, Bool.true_and]
            by_cases h6 : is = ds
            · rw [decide_eq_true h6, Bool.true_and]
              cases h7 : y with
              | false => exact rin_7 ds dq kind it is rt rs deps.length text dA gA dc gc n et es g y y' x8 w HI hn0 hnn h3 h4 h5 h6 h7
              | true =>
                rw [Bool.true_and]
                cases h8 : x8 with
                | true =>
                  rw [Bool.true_or, Bool.true_and]
                  rcases Int.lt_or_le rt it with h10 | h10
                  · rw [decide_eq_true h10]
                    exact rin_11 ds dq kind it is rt rs deps.length text dA gA dc gc n et es g y y' x8 w HI hn0 hnn h3 h4 h5 h6 h7 h8 h10
                  · rw [decide_eq_false (by omega)]
                    exact rin_9 ds dq kind it is rt rs deps.length text dA gA dc gc n et es g y y' x8 w HI hn0 hnn h3 h4 h5 h6 h7 h8 h10
                | false =>
                  rw [Bool.false_or]
                  cases h9 : y' with
                  | false => exact rin_8 ds dq kind it is rt rs deps.length text dA gA dc gc n et es g y y' x8 w HI hn0 hnn h3 h4 h5 h6 h7 h8 h9
                  | true =>
                    rw [Bool.true_and]
                    rcases Int.lt_or_le rt it with h10 | h10
                    · rw [decide_eq_true h10]
                      exact rin_12 ds dq kind it is rt rs deps.length text dA gA dc gc n et es g y y' x8 w HI hn0 hnn h3 h4 h5 h6 h7 h8 h9 h10
                    · rw [decide_eq_false (by omega)]
                      exact rin_10 ds dq kind it is rt rs deps.length text dA gA dc gc n et es g y y' x8 w HI hn0 hnn h3 h4 h5 h6 h7 h8 h9 h10
            · rw [decide_eq_false h6, Bool.false_and]
              exact rin_6 ds dq kind it is rt rs deps.length text dA gA dc gc n et es g y y' x8 w HI hn0 hnn h3 h4 h5 h6
    · rw [decide_eq_false hs, Bool.false_and]
      exact rin_2 ds dq kind it is rt rs site deps.length text dA gA dc gc n et es g y y' x8 w HI hs
  · rw [decide_eq_false (by omega), Bool.false_and]
    exact rin_1 ds dq kind it is rt rs site deps.length text dA gA dc gc gone.length n et es g y y' x8 w HI h0
end Go.Proofs.YtnajbkccaclkcaaGreat

namespace Go.Proofs.YtnajbkccaclkcaaGreat
open Go Go.RowKit

set_option maxRecDepth 100000 in
set_option maxHeartbeats 6400000 in
theorem r8chk (ds dq kind it is rt rs site : Int) (deps : List Dt) (text : ByteArray) (dA gA : Option Addr) (dc gl gc : Nat) (w : World) (bi : Bool) (z : Int) (hb sb : Bool) (cv gv : Int) (rb bare : Bool) (res : Int) (HRES : Hid (res = if (hb && rb) = true then 0 else 10))
    (HI : Hid (∀ W, Calls Tryz.prog 102 #[.agg #[.int .i64 ds, .int .i64 dq, .slice dA deps.length dc, .int .i64 kind, .int .i64 it, .int .i64 is, .int .i64 rt, .int .i64 rs, .string text, .slice gA gl gc, .int .i64 site]] W (BoolPost W bi)))
    (HR : Hid (∀ W, Kept (fun _ => False) w W → Calls Tryz.prog 103 #[.slice gA gl gc] W (IntPost W z)))
    (HST : Hid (∀ W, Calls Tryz.prog 101 #[.int .i64 ds] W (BoolPost W sb)))
    (HC : Hid (∀ W, DotsAt W dA deps → Calls Tryz.prog 31 #[.slice dA deps.length dc] W (IntPost W cv)))
    (HG : Hid (∀ W, DotsAt W dA deps → Calls Tryz.prog 91 #[.slice dA deps.length dc, .int .i64 ds] W (IntPost W gv)))
    (hd : DotsAt w dA deps) (hgl : gl ≤ 1000000)
    (HH : Hid (hb = (sb && (decide (1 ≤ dq) && (decide (dq ≤ 2147483647) && (decide (cv = 0) && decide (gv = dq - 1)))))))
    (HB : Hid (bare = (decide (it = 0 ∧ is = 0) && (decide (rt = 0 ∧ rs = 0) && decide (text.toList = [])))))
    (HRB : Hid (rb = if kind = 1 then bi else if kind = 2 then bare && (decide (site = 0) && (decide (1 ≤ gl) && (decide (gl ≤ 1024) && decide (z = 0)))) else if kind = 3 then bare && (decide (gl = 0) && siteB site) else if kind = 4 then bare && (decide (gl = 0) && decide (site = 0)) else false)) :
    Calls Tryz.prog 83 #[.agg #[.int .i64 ds, .int .i64 dq, .slice dA deps.length dc, .int .i64 kind, .int .i64 it, .int .i64 is, .int .i64 rt, .int .i64 rs, .string text, .slice gA gl gc, .int .i64 site]] w (IntPost w res) := by
  have HZ := Lib.hid (show CB w w.heap.size dA deps #[.int .i64 ds, .int .i64 dq, .slice dA deps.length dc, .int .i64 kind, .int .i64 it, .int .i64 is, .int .i64 rt, .int .i64 rs, .string text, .slice gA gl gc, .int .i64 site] (w.alloc (.cells #[.int .i64 ds, .int .i64 dq, .slice dA deps.length dc, .int .i64 kind, .int .i64 it, .int .i64 is, .int .i64 rt, .int .i64 rs, .string text, .slice gA gl gc, .int .i64 site] 64)) from ⟨Box.new w _ _, hd.kept ((Kept.refl (fun _ => False) w).alloc _) fun _ _ h => h, (Kept.refl _ _).alloc _⟩)
  clear hd
  go_enter Tryz.func83, Tryz.ntmps83
  go_upto_region 1 with (fail)
  generalize w.alloc (.cells #[.int .i64 ds, .int .i64 dq, .slice dA deps.length dc, .int .i64 kind, .int .i64 it, .int .i64 is, .int .i64 rt, .int .i64 rs, .string text, .slice gA gl gc, .int .i64 site] 64) = w1 at HZ ⊢
  go_cut [40] (fun v wx => v = .bool (!hb) ∧ CB w w.heap.size dA deps #[.int .i64 ds, .int .i64 dq, .slice dA deps.length dc, .int .i64 kind, .int .i64 it, .int .i64 is, .int .i64 rt, .int .i64 rs, .string text, .slice gA gl gc, .int .i64 site] wx)
  case first =>
    clear HB HRB HI HR hgl
    cases sb with
    | false =>
      rw [Bool.false_and] at HH
      refine wp_region_class (l := _ :: _ :: _ :: _ :: _ :: _ :: _ :: _ :: _ :: _ :: _ :: _ :: _ :: _ :: _ :: _ :: _ :: _ :: _ :: _ :: _ :: _ :: _ :: _ :: _ :: _ :: _ :: _ :: _ :: _ :: _ :: _ :: _ :: _ :: _ :: _ :: []) (C := fun w' => CB w w.heap.size dA deps #[.int .i64 ds, .int .i64 dq, .slice dA deps.length dc, .int .i64 kind, .int .i64 it, .int .i64 is, .int .i64 rt, .int .i64 rs, .string text, .slice gA gl gc, .int .i64 site] w') (by kernel_rfl) (by kernel_rfl) HZ.out.drew ?_
      repeat
        first | go_big_quiet_skip | (go_big_quiet_want; first | (go_big_quiet_op; go_big_quiet_on) | (apply Exists.intro; refine ⟨fun w' hS => ?_, ?_⟩; (have HJ := hS; obtain ⟨d0, d1, d2, d3, d4, d5, d6, d7, d8, d9, d10⟩ := CB.S hS; go_simp; first | rfl | exact ⟨rfl, rfl⟩ | ((with_reducible refine (HST.out _).mono ?_); unfold BoolPost; rintro e w2 ⟨rfl, hk⟩; exact ⟨rfl, CB.fresh HJ hk⟩)); (try simp only [Act.put, List.setIfInBounds_toArray, List.set_cons_zero, List.set_cons_succ]); go_big_quiet_on))
      refine wpQuiet_nil ?_
      intro w3 hJ
      have HJ3 := Lib.hid hJ
      clear hJ HZ
      go_wp2
      go_meet
      case rel => exact ⟨congrArg Value.bool (by rw [HH.out]; rfl), HJ3.out⟩
    | true =>
      rw [Bool.true_and] at HH
      by_cases h1 : 1 ≤ dq
      · rw [decide_eq_true h1, Bool.true_and] at HH
        have l1 : decide (dq < 1) = false := decide_eq_false (by omega)
        by_cases h2 : dq ≤ 2147483647
        · rw [decide_eq_true h2, Bool.true_and] at HH
          have l2 : decide (2147483647 < dq) = false := decide_eq_false (by omega)
          by_cases h3 : cv = 0
          · rw [decide_eq_true h3, Bool.true_and] at HH
            subst h3
            have hw : IntKind.i64.wrap (dq - 1) = dq - 1 := IntWalk.i64_in _ ⟨by omega, by omega⟩
            by_cases h4 : gv = dq - 1
            · rw [decide_eq_true h4] at HH
              have l4 : (gv != dq - 1) = false := by rw [h4]; exact bne_self_eq_false _
              clear h4
              refine wp_region_class (l := _ :: _ :: _ :: _ :: _ :: _ :: _ :: _ :: _ :: _ :: _ :: _ :: _ :: _ :: _ :: _ :: _ :: _ :: _ :: _ :: _ :: _ :: _ :: _ :: _ :: _ :: _ :: _ :: _ :: _ :: _ :: _ :: _ :: _ :: _ :: _ :: []) (C := fun w' => CB w w.heap.size dA deps #[.int .i64 ds, .int .i64 dq, .slice dA deps.length dc, .int .i64 kind, .int .i64 it, .int .i64 is, .int .i64 rt, .int .i64 rs, .string text, .slice gA gl gc, .int .i64 site] w') (by kernel_rfl) (by kernel_rfl) HZ.out.drew ?_
              repeat
                first | go_big_quiet_skip | (go_big_quiet_want; first | (go_big_quiet_op; go_big_quiet_on) | (apply Exists.intro; refine ⟨fun w' hS => ?_, ?_⟩; (have HJ := hS; obtain ⟨d0, d1, d2, d3, d4, d5, d6, d7, d8, d9, d10⟩ := CB.S hS; go_simp; first | rfl | exact ⟨rfl, rfl⟩ | ((with_reducible refine (HST.out _).mono ?_); unfold BoolPost; rintro e w2 ⟨rfl, hk⟩; exact ⟨rfl, CB.fresh HJ hk⟩) | ((with_reducible refine (HC.out _ HJ.d).mono ?_); unfold IntPost; rintro e w2 ⟨rfl, hk⟩; exact ⟨rfl, CB.fresh HJ hk⟩) | ((with_reducible refine (HG.out _ HJ.d).mono ?_); unfold IntPost; rintro e w2 ⟨rfl, hk⟩; exact ⟨rfl, CB.fresh HJ hk⟩)); (try simp only [Act.put, List.setIfInBounds_toArray, List.set_cons_zero, List.set_cons_succ]); go_big_quiet_on))
              refine wpQuiet_nil ?_
              intro w3 hJ
              have HJ3 := Lib.hid hJ
              clear hJ HZ
              go_wp2
              go_meet
              case rel => exact ⟨congrArg Value.bool (by rw [HH.out]; rfl), HJ3.out⟩
            · rw [decide_eq_false h4] at HH
              have l4 : (gv != dq - 1) = true := bne_iff_ne.2 h4
              clear h4
              refine wp_region_class (l := _ :: _ :: _ :: _ :: _ :: _ :: _ :: _ :: _ :: _ :: _ :: _ :: _ :: _ :: _ :: _ :: _ :: _ :: _ :: _ :: _ :: _ :: _ :: _ :: _ :: _ :: _ :: _ :: _ :: _ :: _ :: _ :: _ :: _ :: _ :: _ :: []) (C := fun w' => CB w w.heap.size dA deps #[.int .i64 ds, .int .i64 dq, .slice dA deps.length dc, .int .i64 kind, .int .i64 it, .int .i64 is, .int .i64 rt, .int .i64 rs, .string text, .slice gA gl gc, .int .i64 site] w') (by kernel_rfl) (by kernel_rfl) HZ.out.drew ?_
              repeat
                first | go_big_quiet_skip | (go_big_quiet_want; first | (go_big_quiet_op; go_big_quiet_on) | (apply Exists.intro; refine ⟨fun w' hS => ?_, ?_⟩; (have HJ := hS; obtain ⟨d0, d1, d2, d3, d4, d5, d6, d7, d8, d9, d10⟩ := CB.S hS; go_simp; first | rfl | exact ⟨rfl, rfl⟩ | ((with_reducible refine (HST.out _).mono ?_); unfold BoolPost; rintro e w2 ⟨rfl, hk⟩; exact ⟨rfl, CB.fresh HJ hk⟩) | ((with_reducible refine (HC.out _ HJ.d).mono ?_); unfold IntPost; rintro e w2 ⟨rfl, hk⟩; exact ⟨rfl, CB.fresh HJ hk⟩) | ((with_reducible refine (HG.out _ HJ.d).mono ?_); unfold IntPost; rintro e w2 ⟨rfl, hk⟩; exact ⟨rfl, CB.fresh HJ hk⟩)); (try simp only [Act.put, List.setIfInBounds_toArray, List.set_cons_zero, List.set_cons_succ]); go_big_quiet_on))
              refine wpQuiet_nil ?_
              intro w3 hJ
              have HJ3 := Lib.hid hJ
              clear hJ HZ
              go_wp2
              go_meet
              case rel => exact ⟨congrArg Value.bool (by rw [HH.out]; rfl), HJ3.out⟩
          · rw [decide_eq_false h3, Bool.false_and] at HH
            have l3 : (cv != 0) = true := bne_iff_ne.2 h3
            clear h3
            refine wp_region_class (l := _ :: _ :: _ :: _ :: _ :: _ :: _ :: _ :: _ :: _ :: _ :: _ :: _ :: _ :: _ :: _ :: _ :: _ :: _ :: _ :: _ :: _ :: _ :: _ :: _ :: _ :: _ :: _ :: _ :: _ :: _ :: _ :: _ :: _ :: _ :: _ :: []) (C := fun w' => CB w w.heap.size dA deps #[.int .i64 ds, .int .i64 dq, .slice dA deps.length dc, .int .i64 kind, .int .i64 it, .int .i64 is, .int .i64 rt, .int .i64 rs, .string text, .slice gA gl gc, .int .i64 site] w') (by kernel_rfl) (by kernel_rfl) HZ.out.drew ?_
            repeat
              first | go_big_quiet_skip | (go_big_quiet_want; first | (go_big_quiet_op; go_big_quiet_on) | (apply Exists.intro; refine ⟨fun w' hS => ?_, ?_⟩; (have HJ := hS; obtain ⟨d0, d1, d2, d3, d4, d5, d6, d7, d8, d9, d10⟩ := CB.S hS; go_simp; first | rfl | exact ⟨rfl, rfl⟩ | ((with_reducible refine (HST.out _).mono ?_); unfold BoolPost; rintro e w2 ⟨rfl, hk⟩; exact ⟨rfl, CB.fresh HJ hk⟩) | ((with_reducible refine (HC.out _ HJ.d).mono ?_); unfold IntPost; rintro e w2 ⟨rfl, hk⟩; exact ⟨rfl, CB.fresh HJ hk⟩)); (try simp only [Act.put, List.setIfInBounds_toArray, List.set_cons_zero, List.set_cons_succ]); go_big_quiet_on))
            refine wpQuiet_nil ?_
            intro w3 hJ
            have HJ3 := Lib.hid hJ
            clear hJ HZ
            go_wp2
            go_meet
            case rel => exact ⟨congrArg Value.bool (by rw [HH.out]; rfl), HJ3.out⟩
        · rw [decide_eq_false h2, Bool.false_and] at HH
          have l2 : decide (2147483647 < dq) = true := decide_eq_true (by omega)
          refine wp_region_class (l := _ :: _ :: _ :: _ :: _ :: _ :: _ :: _ :: _ :: _ :: _ :: _ :: _ :: _ :: _ :: _ :: _ :: _ :: _ :: _ :: _ :: _ :: _ :: _ :: _ :: _ :: _ :: _ :: _ :: _ :: _ :: _ :: _ :: _ :: _ :: _ :: []) (C := fun w' => CB w w.heap.size dA deps #[.int .i64 ds, .int .i64 dq, .slice dA deps.length dc, .int .i64 kind, .int .i64 it, .int .i64 is, .int .i64 rt, .int .i64 rs, .string text, .slice gA gl gc, .int .i64 site] w') (by kernel_rfl) (by kernel_rfl) HZ.out.drew ?_
          repeat
            first | go_big_quiet_skip | (go_big_quiet_want; first | (go_big_quiet_op; go_big_quiet_on) | (apply Exists.intro; refine ⟨fun w' hS => ?_, ?_⟩; (have HJ := hS; obtain ⟨d0, d1, d2, d3, d4, d5, d6, d7, d8, d9, d10⟩ := CB.S hS; go_simp; first | rfl | exact ⟨rfl, rfl⟩ | ((with_reducible refine (HST.out _).mono ?_); unfold BoolPost; rintro e w2 ⟨rfl, hk⟩; exact ⟨rfl, CB.fresh HJ hk⟩)); (try simp only [Act.put, List.setIfInBounds_toArray, List.set_cons_zero, List.set_cons_succ]); go_big_quiet_on))
          refine wpQuiet_nil ?_
          intro w3 hJ
          have HJ3 := Lib.hid hJ
          clear hJ HZ
          go_wp2
          go_meet
          case rel => exact ⟨congrArg Value.bool (by rw [HH.out]; rfl), HJ3.out⟩
      · rw [decide_eq_false h1, Bool.false_and] at HH
        have l1 : decide (dq < 1) = true := decide_eq_true (by omega)
        refine wp_region_class (l := _ :: _ :: _ :: _ :: _ :: _ :: _ :: _ :: _ :: _ :: _ :: _ :: _ :: _ :: _ :: _ :: _ :: _ :: _ :: _ :: _ :: _ :: _ :: _ :: _ :: _ :: _ :: _ :: _ :: _ :: _ :: _ :: _ :: _ :: _ :: _ :: []) (C := fun w' => CB w w.heap.size dA deps #[.int .i64 ds, .int .i64 dq, .slice dA deps.length dc, .int .i64 kind, .int .i64 it, .int .i64 is, .int .i64 rt, .int .i64 rs, .string text, .slice gA gl gc, .int .i64 site] w') (by kernel_rfl) (by kernel_rfl) HZ.out.drew ?_
        repeat
          first | go_big_quiet_skip | (go_big_quiet_want; first | (go_big_quiet_op; go_big_quiet_on) | (apply Exists.intro; refine ⟨fun w' hS => ?_, ?_⟩; (have HJ := hS; obtain ⟨d0, d1, d2, d3, d4, d5, d6, d7, d8, d9, d10⟩ := CB.S hS; go_simp; first | rfl | exact ⟨rfl, rfl⟩ | ((with_reducible refine (HST.out _).mono ?_); unfold BoolPost; rintro e w2 ⟨rfl, hk⟩; exact ⟨rfl, CB.fresh HJ hk⟩)); (try simp only [Act.put, List.setIfInBounds_toArray, List.set_cons_zero, List.set_cons_succ]); go_big_quiet_on))
        refine wpQuiet_nil ?_
        intro w3 hJ
        have HJ3 := Lib.hid hJ
        clear hJ HZ
        go_wp2
        go_meet
        case rel => exact ⟨congrArg Value.bool (by rw [HH.out]; rfl), HJ3.out⟩
  case rest =>
    obtain ⟨rfl, hz⟩ := hcut
    have HZ1 := Lib.hid hz
    clear hz HZ HH HST HC HG
    obtain ⟨c0, c1, c2, c3, c4, c5, c6, c7, c8, c9, c10⟩ := HZ1.out.S
    cases hb with
    | false =>
      obtain rfl : res = 10 := by rw [HRES.out]; rfl
      clear HRES
      go_wp2
      go_ret
      exact ⟨rfl, HZ1.out.k⟩
    | true =>
      go_upto_region 3 with (fail)
      go_cut [3] (fun v wx => v = .bool bare ∧ CB w w.heap.size dA deps #[.int .i64 ds, .int .i64 dq, .slice dA deps.length dc, .int .i64 kind, .int .i64 it, .int .i64 is, .int .i64 rt, .int .i64 rs, .string text, .slice gA gl gc, .int .i64 site] wx)
      case first =>
        clear HRB HI HR
        by_cases h1 : it = 0 ∧ is = 0
        · rw [decide_eq_true h1, Bool.true_and] at HB
          have q1 := fun W => eql_id it is 0 0 W
          rw [decide_eq_true h1] at q1
          clear h1
          by_cases h2 : rt = 0 ∧ rs = 0
          · rw [decide_eq_true h2, Bool.true_and] at HB
            have q2 := fun W => eql_id rt rs 0 0 W
            rw [decide_eq_true h2] at q2
            clear h2
            by_cases h3 : text.toList = []
            · rw [decide_eq_true h3] at HB
              go_wp2_with (fail)
              all_goals first | exact absurd ‹text.toList = []› h3 | exact absurd (List.isEmpty_iff.1 ‹text.toList.isEmpty = true›) h3 | exact absurd h3 ‹¬ text.toList = []› | skip
              go_meet
              case rel => exact ⟨by first | exact congrArg Value.bool HB.out.symm | exact congrArg Value.bool ((show text.toList.isEmpty = false by simpa using h3).trans HB.out.symm), HZ1.out⟩
            · rw [decide_eq_false h3] at HB
              go_wp2_with (fail)
              all_goals first | exact absurd ‹text.toList = []› h3 | exact absurd (List.isEmpty_iff.1 ‹text.toList.isEmpty = true›) h3 | exact absurd h3 ‹¬ text.toList = []› | skip
              go_meet
              case rel => exact ⟨by first | exact congrArg Value.bool HB.out.symm | exact congrArg Value.bool ((show text.toList.isEmpty = false by simpa using h3).trans HB.out.symm), HZ1.out⟩
          · rw [decide_eq_false h2, Bool.false_and] at HB
            have q2 := fun W => eql_id rt rs 0 0 W
            rw [decide_eq_false h2] at q2
            clear h2
            go_wp2_with (fail)
            go_meet
            case rel => exact ⟨by first | exact congrArg Value.bool HB.out.symm | exact congrArg Value.bool ((show text.toList.isEmpty = false by simpa using h3).trans HB.out.symm), HZ1.out⟩
        · rw [decide_eq_false h1, Bool.false_and] at HB
          have q1 := fun W => eql_id it is 0 0 W
          rw [decide_eq_false h1] at q1
          clear h1
          go_wp2_with (fail)
          go_meet
          case rel => exact ⟨by first | exact congrArg Value.bool HB.out.symm | exact congrArg Value.bool ((show text.toList.isEmpty = false by simpa using h3).trans HB.out.symm), HZ1.out⟩
      case rest =>
        obtain ⟨rfl, hz⟩ := hcut
        have HZ2 := Lib.hid hz
        clear hz HZ1 HB c0 c1 c2 c3 c4 c5 c6 c7 c8 c9 c10
        obtain ⟨c0, c1, c2, c3, c4, c5, c6, c7, c8, c9, c10⟩ := HZ2.out.S
        by_cases k1 : kind = 1
        · subst k1
          rw [if_pos rfl] at HRB
          obtain rfl := HRB.out
          clear HRB
          go_wp2_with (fail)
          refine (HI.out _).mono ?_
          unfold BoolPost
          rintro e hz3 ⟨rfl, hk⟩
          have HZ3 := Lib.hid (HZ2.out.fresh hk)
          clear hk HZ2 c0 c1 c2 c3 c4 c5 c6 c7 c8 c9 c10
          obtain ⟨c0, c1, c2, c3, c4, c5, c6, c7, c8, c9, c10⟩ := HZ3.out.S
          cases rb with
          | false =>
            obtain rfl : res = 10 := by rw [HRES.out]; rfl
            clear HRES
            go_wp2
            go_ret
            exact ⟨rfl, HZ3.out.k⟩
          | true =>
            obtain rfl : res = 0 := by rw [HRES.out]; rfl
            clear HRES
            go_wp2
            go_ret
            exact ⟨rfl, HZ3.out.k⟩
        rw [if_neg k1] at HRB
        by_cases k2 : kind = 2
        · subst k2
          rw [if_pos rfl] at HRB
          cases bare with
          | false =>
            rw [Bool.false_and] at HRB
            obtain rfl : rb = false := by rw [HRB.out]
            clear HRB
            obtain rfl : res = 10 := by rw [HRES.out]; rfl
            clear HRES
            go_wp2
            go_ret
            exact ⟨rfl, HZ2.out.k⟩
          | true =>
            rw [Bool.true_and] at HRB
            by_cases s0 : site = 0
            · subst s0
              rw [decide_eq_true (rfl : (0 : Int) = 0), Bool.true_and] at HRB
              by_cases l1 : 1 ≤ gl
              · rw [decide_eq_true l1, Bool.true_and] at HRB
                by_cases l2 : gl ≤ 1024
                · rw [decide_eq_true l2, Bool.true_and] at HRB
                  go_wp2_with (fail)
                  refine (HR.out _ HZ2.out.k).mono ?_
                  unfold IntPost
                  rintro e hz3 ⟨rfl, hk⟩
                  have HZ3 := Lib.hid (HZ2.out.fresh hk)
                  clear hk HZ2 c0 c1 c2 c3 c4 c5 c6 c7 c8 c9 c10
                  obtain ⟨c0, c1, c2, c3, c4, c5, c6, c7, c8, c9, c10⟩ := HZ3.out.S
                  by_cases z0 : z = 0
                  · subst z0
                    obtain rfl : rb = true := by rw [HRB.out]; rfl
                    clear HRB
                    obtain rfl : res = 0 := by rw [HRES.out]; rfl
                    clear HRES
                    go_wp2
                    go_ret
                    exact ⟨rfl, HZ3.out.k⟩
                  · rw [decide_eq_false z0] at HRB
                    have z0' : (z == 0) = false := beq_eq_false_iff_ne.2 z0
                    clear z0
                    obtain rfl : rb = false := by rw [HRB.out]
                    clear HRB
                    obtain rfl : res = 10 := by rw [HRES.out]; rfl
                    clear HRES
                    go_wp2
                    go_ret
                    exact ⟨rfl, HZ3.out.k⟩
                · rw [decide_eq_false l2, Bool.false_and] at HRB
                  obtain rfl : rb = false := by rw [HRB.out]
                  clear HRB
                  obtain rfl : res = 10 := by rw [HRES.out]; rfl
                  clear HRES
                  go_wp2
                  go_ret
                  exact ⟨rfl, HZ2.out.k⟩
              · rw [decide_eq_false l1, Bool.false_and] at HRB
                obtain rfl : rb = false := by rw [HRB.out]
                clear HRB
                obtain rfl : res = 10 := by rw [HRES.out]; rfl
                clear HRES
                go_wp2
                go_ret
                exact ⟨rfl, HZ2.out.k⟩
            · rw [decide_eq_false s0, Bool.false_and] at HRB
              have s0' : (site == 0) = false := beq_eq_false_iff_ne.2 s0
              clear s0
              obtain rfl : rb = false := by rw [HRB.out]
              clear HRB
              obtain rfl : res = 10 := by rw [HRES.out]; rfl
              clear HRES
              go_wp2
              go_ret
              exact ⟨rfl, HZ2.out.k⟩
        rw [if_neg k2] at HRB
        by_cases k3 : kind = 3
        · subst k3
          rw [if_pos rfl] at HRB
          cases bare with
          | false =>
            rw [Bool.false_and] at HRB
            obtain rfl : rb = false := by rw [HRB.out]
            clear HRB
            obtain rfl : res = 10 := by rw [HRES.out]; rfl
            clear HRES
            go_wp2
            go_ret
            exact ⟨rfl, HZ2.out.k⟩
          | true =>
            rw [Bool.true_and] at HRB
            by_cases g0 : gl = 0
            · subst g0
              rw [decide_eq_true (rfl : (0 : Nat) = 0), Bool.true_and] at HRB
              go_wp2_with (fail)
              refine (RSite_any site _).mono ?_
              unfold BoolPost
              rintro e hz3 ⟨rfl, hk⟩
              have HZ3 := Lib.hid (HZ2.out.fresh hk)
              clear hk HZ2 c0 c1 c2 c3 c4 c5 c6 c7 c8 c9 c10
              obtain ⟨c0, c1, c2, c3, c4, c5, c6, c7, c8, c9, c10⟩ := HZ3.out.S
              obtain rfl := HRB.out
              clear HRB
              generalize siteB site = rb at HRES ⊢
              cases rb with
              | false =>
                obtain rfl : res = 10 := by rw [HRES.out]; rfl
                clear HRES
                go_wp2
                go_ret
                exact ⟨rfl, HZ3.out.k⟩
              | true =>
                obtain rfl : res = 0 := by rw [HRES.out]; rfl
                clear HRES
                go_wp2
                go_ret
                exact ⟨rfl, HZ3.out.k⟩
            · rw [decide_eq_false g0, Bool.false_and] at HRB
              have g0' : ((gl : Int) == 0) = false := beq_eq_false_iff_ne.2 (by omega)
              obtain rfl : rb = false := by rw [HRB.out]
              clear HRB
              obtain rfl : res = 10 := by rw [HRES.out]; rfl
              clear HRES
              go_wp2
              go_ret
              exact ⟨rfl, HZ2.out.k⟩
        rw [if_neg k3] at HRB
        by_cases k4 : kind = 4
        · subst k4
          rw [if_pos rfl] at HRB
          cases bare with
          | false =>
            rw [Bool.false_and] at HRB
            obtain rfl : rb = false := by rw [HRB.out]
            clear HRB
            obtain rfl : res = 10 := by rw [HRES.out]; rfl
            clear HRES
            go_wp2
            go_ret
            exact ⟨rfl, HZ2.out.k⟩
          | true =>
            rw [Bool.true_and] at HRB
            by_cases g0 : gl = 0
            · subst g0
              rw [decide_eq_true (rfl : (0 : Nat) = 0), Bool.true_and] at HRB
              by_cases s0 : site = 0
              · subst s0
                obtain rfl : rb = true := by rw [HRB.out]; rfl
                clear HRB
                obtain rfl : res = 0 := by rw [HRES.out]; rfl
                clear HRES
                go_wp2
                go_ret
                exact ⟨rfl, HZ2.out.k⟩
              · rw [decide_eq_false s0] at HRB
                have s0' : (site == 0) = false := beq_eq_false_iff_ne.2 s0
                clear s0
                obtain rfl : rb = false := by rw [HRB.out]
                clear HRB
                obtain rfl : res = 10 := by rw [HRES.out]; rfl
                clear HRES
                go_wp2
                go_ret
                exact ⟨rfl, HZ2.out.k⟩
            · rw [decide_eq_false g0, Bool.false_and] at HRB
              have g0' : ((gl : Int) == 0) = false := beq_eq_false_iff_ne.2 (by omega)
              obtain rfl : rb = false := by rw [HRB.out]
              clear HRB
              obtain rfl : res = 10 := by rw [HRES.out]; rfl
              clear HRES
              go_wp2
              go_ret
              exact ⟨rfl, HZ2.out.k⟩
        rw [if_neg k4] at HRB
        have k1' : (kind == 1) = false := beq_eq_false_iff_ne.2 k1
        have k2' : (kind == 2) = false := beq_eq_false_iff_ne.2 k2
        have k3' : (kind == 3) = false := beq_eq_false_iff_ne.2 k3
        have k4' : (kind == 4) = false := beq_eq_false_iff_ne.2 k4
        clear k1 k2 k3 k4
        obtain rfl : rb = false := by rw [HRB.out]
        clear HRB
        obtain rfl : res = 10 := by rw [HRES.out]; rfl
        clear HRES
        go_wp2
        go_ret
        exact ⟨rfl, HZ2.out.k⟩
theorem RefCheck_any (o : Opr) (dA gA : Option Addr) (dc gc : Nat) (w : World) (h : OprAt w dA gA o) : Calls Tryz.prog 83 #[.agg (o.cells dA dc gA gc)] w (IntPost w (opE o)) := by
  have hi := fun W => RInsert_any o dA gA dc gc W h.tl
  have hr := fun W (hk : Kept (fun _ => False) w W) => RRCheck_any gA o.gone gc W (h.runs.kept hk fun _ _ _ => id) h.counts h.gl
  have hd := h.dots
  have hdl := h.dl
  have hgl := h.gl
  clear h
  have hok : okOp o = ((siteB o.dot.site && (decide (1 ≤ o.dot.seq) && (decide (o.dot.seq ≤ 2147483647) && (decide (checkV o.deps = 0) && decide (getV o.deps o.dot.site = o.dot.seq - 1))))) &&
      (if o.kind = 1 then insB o else if o.kind = 2 then (decide (o.id.time = 0 ∧ o.id.site = 0) && (decide (o.ref.time = 0 ∧ o.ref.site = 0) && decide (o.text.toList = []))) && (decide (o.site = 0) && (decide (1 ≤ o.gone.length) && (decide (o.gone.length ≤ 1024) && decide (chkR [] o.gone = 0))))
        else if o.kind = 3 then (decide (o.id.time = 0 ∧ o.id.site = 0) && (decide (o.ref.time = 0 ∧ o.ref.site = 0) && decide (o.text.toList = []))) && (decide (o.gone.length = 0) && siteB o.site)
        else if o.kind = 4 then (decide (o.id.time = 0 ∧ o.id.site = 0) && (decide (o.ref.time = 0 ∧ o.ref.site = 0) && decide (o.text.toList = []))) && (decide (o.gone.length = 0) && decide (o.site = 0)) else false)) := by
    have e1 : decide (o.id.time = 0 ∧ o.id.site = 0) = decide (o.id = noId) := id_dec o.id noId
    have e2 : decide (o.ref.time = 0 ∧ o.ref.site = 0) = decide (o.ref = noId) := id_dec o.ref noId
    have e3 : decide (o.text.toList = []) = decide (o.text = ⟨#[]⟩) := decide_eq_decide.2 (toList_nil _)
    rw [e1, e2, e3]
    unfold okOp rightB removeB joinB bareB sameRest siteB
    rw [Bool.eq_iff_iff]
    simp only [Bool.and_eq_true, decide_eq_true_eq]
    split
    · simp only [and_assoc]
    · split
      · simp only [Bool.and_eq_true, decide_eq_true_eq, and_assoc]
        exact Iff.rfl
      · split
        · simp only [Bool.and_eq_true, decide_eq_true_eq, and_assoc]
          constructor
          · rintro ⟨a, b, c, d, e, f, g, h, i, j, -, k⟩; exact ⟨a, b, c, d, e, f, h, i, j, g, k⟩
          · rintro ⟨a, b, c, d, e, f, h, i, j, g, k⟩; exact ⟨a, b, c, d, e, f, g, h, i, j, trivial, k⟩
        · split
          · simp only [Bool.and_eq_true, decide_eq_true_eq, and_assoc]
            constructor
            · rintro ⟨a, b, c, d, e, f, g, h, i, j, k⟩; exact ⟨a, b, c, d, e, f, h, i, j, g, k⟩
            · rintro ⟨a, b, c, d, e, f, h, i, j, g, k⟩; exact ⟨a, b, c, d, e, f, g, h, i, j, k⟩
          · simp
  unfold opE
  rw [hok]
  obtain ⟨⟨ds, dq⟩, deps, kind, ⟨it, is⟩, ⟨rt, rs⟩, text, gone, site⟩ := o
  exact r8chk ds dq kind it is rt rs site deps text dA gA dc gone.length gc w _ _ _ _ _ _ _ _ _ (Lib.hid rfl) (Lib.hid hi) (Lib.hid hr) (Lib.hid fun W => RSite_any ds W) (Lib.hid fun W h => RCheck_any dA deps dc W h (Nat.le_trans hdl (by decide))) (Lib.hid fun W h => RGet_any dA deps dc ds W h (Nat.le_trans hdl (by decide))) hd hgl (Lib.hid rfl) (Lib.hid rfl) (Lib.hid rfl)
end Go.Proofs.YtnajbkccaclkcaaGreat
