/- The walk of remove.right. Conditions: the runs lie in memory as RunsAt says; numbers are those of Go's int. · The walk of op.Check. Conditions: the dots lie in memory as DotsAt says; what the kind's right says is a contract. · The walks of glyph.Count, follows, width, BadAt. Conditions: what Go's own sizes hold. -/
import Derived.Test.YtnajbkccaclkcaaGreatIM10
import Derived.Test.YtnajbkccaclkcaaGreatIM17
import Derived.Test.YtnajbkccaclkcaaGreatIM5
import Derived.Test.YtnajbkccaclkcaaGreatIM0
import Derived.Test.YtnajbkccaclkcaaGreatIM2
import Derived.Test.YtnajbkccaclkcaaGreatIM3
import Derived.Lib.OthersKept
namespace Go.Proofs.YtnajbkccaclkcaaGreat
open Go Go.RowKit

/-- May these runs go? -/
def removeB (o : Opr) : Bool := sameRest o.id o.ref o.text o.site noId noId ⟨#[]⟩ 0 && (decide (0 < o.gone.length) && (decide (o.gone.length ≤ 1024) && decide (chkR [] o.gone = 0)))
set_option maxRecDepth 100000 in
set_option maxHeartbeats 3200000 in
theorem remove_any (o : Opr) (dA gA : Option Addr) (dc gc : Nat) (w : World) (hr : RunsAt w gA o.gone) (hc : ∀ r ∈ o.gone, inI r.count) (hg : o.gone.length ≤ 1000000) :
    Calls Tryz.prog 151 #[.agg #[.slice gA o.gone.length gc], .agg (o.cells dA dc gA gc)] w (BoolPost w (removeB o)) := by
  obtain ⟨⟨ds, dq⟩, deps, kind, ⟨it, is⟩, ⟨rt, rs⟩, text, gone, site⟩ := o
  simp only at hr hc hg
  have HRU := Lib.hid hr
  have HC := Lib.hid hc
  obtain ⟨x, hx⟩ : ∃ x, sameRest ⟨it, is⟩ ⟨rt, rs⟩ text site noId noId ⟨#[]⟩ 0 = x := ⟨_, rfl⟩
  have hq := fun W => eql_rest ⟨it, is⟩ ⟨rt, rs⟩ text site noId noId ⟨#[]⟩ 0 W
  rw [hx] at hq
  obtain ⟨y, hy⟩ : ∃ y, chkR [] gone = y := ⟨_, rfl⟩
  have HY := Lib.hid hy
  obtain ⟨b, hb⟩ : ∃ b, removeB ⟨⟨ds, dq⟩, deps, kind, ⟨it, is⟩, ⟨rt, rs⟩, text, gone, site⟩ = b := ⟨_, rfl⟩
  rw [hb]
  unfold removeB at hb
  simp only at hb
  rw [hx, hy] at hb
  unfold restC noId at hq
  unfold Opr.cells
  simp only at hq ⊢
  have hcase : (x = false ∧ b = false) ∨ (x = true ∧ gone.length = 0 ∧ b = false) ∨ (x = true ∧ 0 < gone.length ∧ 1024 < gone.length ∧ b = false) ∨ (x = true ∧ 0 < gone.length ∧ gone.length ≤ 1024 ∧ b = decide (y = 0)) := by
    cases x with
    | false => exact .inl ⟨rfl, hb.symm⟩
    | true =>
      rw [Bool.true_and] at hb
      by_cases h1 : 0 < gone.length
      · rw [decide_eq_true h1, Bool.true_and] at hb
        by_cases h2 : gone.length ≤ 1024
        · rw [decide_eq_true h2, Bool.true_and] at hb
          exact .inr (.inr (.inr ⟨rfl, h1, h2, hb.symm⟩))
        · rw [decide_eq_false h2, Bool.false_and] at hb
          exact .inr (.inr (.inl ⟨rfl, h1, by omega, hb.symm⟩))
      · rw [decide_eq_false h1, Bool.false_and] at hb
        exact .inr (.inl ⟨rfl, by omega, hb.symm⟩)
  have HR := Lib.hid (show ∀ W, Calls Tryz.prog 144 #[.agg #[.int .i64 ds, .int .i64 dq, .slice dA deps.length dc, .int .i64 kind, .int .i64 it, .int .i64 is, .int .i64 rt, .int .i64 rs, .string text, .slice gA gone.length gc, .int .i64 site]] W (OfPost W (.agg #[.int .i64 it, .int .i64 is, .int .i64 rt, .int .i64 rs, .string text, .int .i64 site])) from fun W => restOf_any ⟨⟨ds, dq⟩, deps, kind, ⟨it, is⟩, ⟨rt, rs⟩, text, gone, site⟩ dA gA dc gc W)
  have HS := Lib.hid (show ∀ W, RunsAt W gA gone → Calls Tryz.prog 152 #[.slice gA gone.length gc] W (IntPost W y) from fun W h => by rw [← hy]; exact SCheck_any gA gone gc W h hc hg)
  have HB1 := Lib.hid ((Box.new w 160 #[.slice gA gone.length gc]).alloc (.cells #[.int .i64 ds, .int .i64 dq, .slice dA deps.length dc, .int .i64 kind, .int .i64 it, .int .i64 is, .int .i64 rt, .int .i64 rs, .string text, .slice gA gone.length gc, .int .i64 site] 64))
  have HK := Lib.hid (((Kept.refl (fun _ => False) w).alloc (.cells #[.slice gA gone.length gc] 160)).alloc (.cells #[.int .i64 ds, .int .i64 dq, .slice dA deps.length dc, .int .i64 kind, .int .i64 it, .int .i64 is, .int .i64 rt, .int .i64 rs, .string text, .slice gA gone.length gc, .int .i64 site] 64))
  clear hx hy hb hr hc
  rcases hcase with ⟨rfl, rfl⟩ | ⟨rfl, h1, rfl⟩ | ⟨rfl, h1, h2, rfl⟩ | ⟨rfl, h1, h2, rfl⟩
  · generalize gone.length = gl at *
    clear HRU HC HY HS
    go_enter Tryz.func151, Tryz.ntmps151
    go_wp2_with (fail)
    refine (HR.out _).mono ?_
    unfold OfPost
    rintro e w2 ⟨rfl, hk⟩
    have HK2 := Lib.hid (HK.out.trans hk fun _ _ e => e)
    clear hk
    go_wp2_with (fail)
    go_ret
    exact ⟨rfl, HK2.out⟩
  · have H1 := Lib.hid h1
    have hn0 : decide (0 < gone.length) = false := decide_eq_false (by omega)
    have hle : gone.length ≤ 0 := by omega
    clear HRU HC HY HS h1
    generalize gone.length = gl at *
    go_enter Tryz.func151, Tryz.ntmps151
    go_wp2_with (fail)
    refine (HR.out _).mono ?_
    unfold OfPost
    rintro e w2 ⟨rfl, hk⟩
    have c0 : w2.cell? ⟨w.heap.size, 0, none⟩ = some (.slice gA gl gc) := (HB1.out.kept hk id).cell 0
    have HK2 := Lib.hid (HK.out.trans hk fun _ _ e => e)
    clear hk
    go_wp2_with (fail)
    go_ret
    exact ⟨rfl, HK2.out⟩
  · have hn0 : decide (0 < gone.length) = true := decide_eq_true h1
    clear HRU HC HY HS
    generalize gone.length = gl at *
    go_enter Tryz.func151, Tryz.ntmps151
    go_wp2_with (fail)
    refine (HR.out _).mono ?_
    unfold OfPost
    rintro e w2 ⟨rfl, hk⟩
    have c0 : w2.cell? ⟨w.heap.size, 0, none⟩ = some (.slice gA gl gc) := (HB1.out.kept hk id).cell 0
    have HK2 := Lib.hid (HK.out.trans hk fun _ _ e => e)
    clear hk
    go_wp2_with (fail)
    go_ret
    exact ⟨rfl, HK2.out⟩
  · have hn0 : decide (0 < gone.length) = true := decide_eq_true h1
    go_enter Tryz.func151, Tryz.ntmps151
    go_wp2_with (fail)
    refine (HR.out _).mono ?_
    unfold OfPost
    rintro e w2 ⟨rfl, hk⟩
    have c0 : w2.cell? ⟨w.heap.size, 0, none⟩ = some (.slice gA gone.length gc) := (HB1.out.kept hk id).cell 0
    have HK2 := Lib.hid (HK.out.trans hk fun _ _ e => e)
    clear hk
    go_wp2_with (fail)
    refine (HS.out _ (HRU.out.fresh HK2.out)).mono ?_
    unfold IntPost
    rintro e w3 ⟨rfl, hk⟩
    have HK3 := Lib.hid (HK2.out.trans hk fun _ _ e => e)
    clear hk
    go_wp2_with (fail)
    go_ret
    exact ⟨congrArg Ending.returned (congrArg Value.bool (by (first | rfl | simp))), HK3.out⟩
end Go.Proofs.YtnajbkccaclkcaaGreat

namespace Go.Proofs.YtnajbkccaclkcaaGreat
open Go Go.RowKit

/-- An operation in its box, its dots, ahead of whatever is done. -/
structure CB (w : World) (g : Nat) (dA : Option Addr) (deps : List Dt) (cs : Array Value) (W : World) : Prop where
  b : Box W g 64 cs
  d : DotsAt W dA deps
  k : Kept (fun _ => False) w W
theorem CB.fresh {w W W' : World} {g : Nat} {dA : Option Addr} {deps : List Dt} {cs : Array Value} (h : CB w g dA deps cs W) (hk : Kept (fun _ => False) W W') : CB w g dA deps cs W' := ⟨h.b.kept hk id, h.d.kept hk fun _ _ h => h, h.k.trans hk fun _ _ e => e⟩
theorem CB.drew {w W : World} {g : Nat} {dA : Option Addr} {deps : List Dt} {cs : Array Value} (h : CB w g dA deps cs W) : CB w g dA deps cs W.drew := h.fresh (Kept.refl (fun _ => False) W).drew
theorem CB.S {w W : World} {g : Nat} {ds dq kind it is rt rs site : Int} {deps : List Dt} {text : ByteArray} {dA gA : Option Addr} {dc gl gc : Nat} (h : CB w g dA deps #[.int .i64 ds, .int .i64 dq, .slice dA deps.length dc, .int .i64 kind, .int .i64 it, .int .i64 is, .int .i64 rt, .int .i64 rs, .string text, .slice gA gl gc, .int .i64 site] W) :
    W.cell? ⟨g, 0, none⟩ = some (.int .i64 ds) ∧ W.cell? ⟨g, 1, none⟩ = some (.int .i64 dq) ∧ W.cell? ⟨g, 2, none⟩ = some (.slice dA deps.length dc) ∧ W.cell? ⟨g, 3, none⟩ = some (.int .i64 kind) ∧ W.cell? ⟨g, 4, none⟩ = some (.int .i64 it) ∧ W.cell? ⟨g, 5, none⟩ = some (.int .i64 is) ∧
    W.cell? ⟨g, 6, none⟩ = some (.int .i64 rt) ∧ W.cell? ⟨g, 7, none⟩ = some (.int .i64 rs) ∧ W.cell? ⟨g, 8, none⟩ = some (.string text) ∧ W.cell? ⟨g, 9, none⟩ = some (.slice gA gl gc) ∧ W.cell? ⟨g, 10, none⟩ = some (.int .i64 site) :=
  ⟨h.b.cell 0, h.b.cell 1, h.b.cell 2, h.b.cell 3, h.b.cell 4, h.b.cell 5, h.b.cell 6, h.b.cell 7, h.b.cell 8, h.b.cell 9, h.b.cell 10⟩
set_option maxRecDepth 100000 in
set_option maxHeartbeats 1600000 in
theorem ochk_1 (ds dq kind it is rt rs site : Int) (deps : List Dt) (text : ByteArray) (dA gA : Option Addr) (dc gl gc : Nat) (w : World) (T : TypeId) (x : Value)
    (HOF : Hid (∀ W, Calls Tryz.prog 77 #[.agg #[.int .i64 ds, .int .i64 dq, .slice dA deps.length dc, .int .i64 kind, .int .i64 it, .int .i64 is, .int .i64 rt, .int .i64 rs, .string text, .slice gA gl gc, .int .i64 site]] W (OfPost W (.iface T x))))
    (hd : DotsAt w dA deps) (h1 : ds < 1) :
    Calls Tryz.prog 60 #[.agg #[.int .i64 ds, .int .i64 dq, .slice dA deps.length dc, .int .i64 kind, .int .i64 it, .int .i64 is, .int .i64 rt, .int .i64 rs, .string text, .slice gA gl gc, .int .i64 site]] w (IntPost w 10) := by
  have hnil : ∀ W : World, (binOp .eql 134 (.iface T x) .nilIface).run Tryz.prog W = .ok (.bool false) W := fun _ => rfl
  have HZ := Lib.hid (show CB w w.heap.size dA deps #[.int .i64 ds, .int .i64 dq, .slice dA deps.length dc, .int .i64 kind, .int .i64 it, .int .i64 is, .int .i64 rt, .int .i64 rs, .string text, .slice gA gl gc, .int .i64 site] (w.alloc (.cells #[.int .i64 ds, .int .i64 dq, .slice dA deps.length dc, .int .i64 kind, .int .i64 it, .int .i64 is, .int .i64 rt, .int .i64 rs, .string text, .slice gA gl gc, .int .i64 site] 64)) from ⟨Box.new w _ _, hd.kept ((Kept.refl (fun _ => False) w).alloc _) fun _ _ h => h, (Kept.refl _ _).alloc _⟩)
  clear hd
  go_enter Tryz.func60, Tryz.ntmps60
  go_wp2_with (fail)
  refine (HOF.out _).mono ?_
  unfold OfPost
  rintro e w1 ⟨rfl, hk⟩
  have HZ1 := Lib.hid (HZ.out.fresh hk)
  clear hk HZ
  obtain ⟨c0, c1, c2, c3, c4, c5, c6, c7, c8, c9, c10⟩ := HZ1.out.S
  go_wp2
  go_ret
  exact ⟨rfl, HZ1.out.k⟩
set_option maxRecDepth 100000 in
set_option maxHeartbeats 1600000 in
theorem ochk_2 (ds dq kind it is rt rs site : Int) (deps : List Dt) (text : ByteArray) (dA gA : Option Addr) (dc gl gc : Nat) (w : World) (T : TypeId) (x : Value)
    (HOF : Hid (∀ W, Calls Tryz.prog 77 #[.agg #[.int .i64 ds, .int .i64 dq, .slice dA deps.length dc, .int .i64 kind, .int .i64 it, .int .i64 is, .int .i64 rt, .int .i64 rs, .string text, .slice gA gl gc, .int .i64 site]] W (OfPost W (.iface T x))))
    (hd : DotsAt w dA deps) (_h1 : 1 ≤ ds) (h2 : 16 < ds) :
    Calls Tryz.prog 60 #[.agg #[.int .i64 ds, .int .i64 dq, .slice dA deps.length dc, .int .i64 kind, .int .i64 it, .int .i64 is, .int .i64 rt, .int .i64 rs, .string text, .slice gA gl gc, .int .i64 site]] w (IntPost w 10) := by
  have hnil : ∀ W : World, (binOp .eql 134 (.iface T x) .nilIface).run Tryz.prog W = .ok (.bool false) W := fun _ => rfl
  have HZ := Lib.hid (show CB w w.heap.size dA deps #[.int .i64 ds, .int .i64 dq, .slice dA deps.length dc, .int .i64 kind, .int .i64 it, .int .i64 is, .int .i64 rt, .int .i64 rs, .string text, .slice gA gl gc, .int .i64 site] (w.alloc (.cells #[.int .i64 ds, .int .i64 dq, .slice dA deps.length dc, .int .i64 kind, .int .i64 it, .int .i64 is, .int .i64 rt, .int .i64 rs, .string text, .slice gA gl gc, .int .i64 site] 64)) from ⟨Box.new w _ _, hd.kept ((Kept.refl (fun _ => False) w).alloc _) fun _ _ h => h, (Kept.refl _ _).alloc _⟩)
  clear hd
  go_enter Tryz.func60, Tryz.ntmps60
  go_wp2_with (fail)
  refine (HOF.out _).mono ?_
  unfold OfPost
  rintro e w1 ⟨rfl, hk⟩
  have HZ1 := Lib.hid (HZ.out.fresh hk)
  clear hk HZ
  obtain ⟨c0, c1, c2, c3, c4, c5, c6, c7, c8, c9, c10⟩ := HZ1.out.S
  go_wp2
  go_ret
  exact ⟨rfl, HZ1.out.k⟩
set_option maxRecDepth 100000 in
set_option maxHeartbeats 1600000 in
theorem ochk_3 (ds dq kind it is rt rs site : Int) (deps : List Dt) (text : ByteArray) (dA gA : Option Addr) (dc gl gc : Nat) (w : World) (T : TypeId) (x : Value)
    (HOF : Hid (∀ W, Calls Tryz.prog 77 #[.agg #[.int .i64 ds, .int .i64 dq, .slice dA deps.length dc, .int .i64 kind, .int .i64 it, .int .i64 is, .int .i64 rt, .int .i64 rs, .string text, .slice gA gl gc, .int .i64 site]] W (OfPost W (.iface T x))))
    (hd : DotsAt w dA deps) (h1 : 1 ≤ ds) (h2 : ds ≤ 16) (h3 : dq < 1) :
    Calls Tryz.prog 60 #[.agg #[.int .i64 ds, .int .i64 dq, .slice dA deps.length dc, .int .i64 kind, .int .i64 it, .int .i64 is, .int .i64 rt, .int .i64 rs, .string text, .slice gA gl gc, .int .i64 site]] w (IntPost w 10) := by
  have hnil : ∀ W : World, (binOp .eql 134 (.iface T x) .nilIface).run Tryz.prog W = .ok (.bool false) W := fun _ => rfl
  have HZ := Lib.hid (show CB w w.heap.size dA deps #[.int .i64 ds, .int .i64 dq, .slice dA deps.length dc, .int .i64 kind, .int .i64 it, .int .i64 is, .int .i64 rt, .int .i64 rs, .string text, .slice gA gl gc, .int .i64 site] (w.alloc (.cells #[.int .i64 ds, .int .i64 dq, .slice dA deps.length dc, .int .i64 kind, .int .i64 it, .int .i64 is, .int .i64 rt, .int .i64 rs, .string text, .slice gA gl gc, .int .i64 site] 64)) from ⟨Box.new w _ _, hd.kept ((Kept.refl (fun _ => False) w).alloc _) fun _ _ h => h, (Kept.refl _ _).alloc _⟩)
  clear hd
  go_enter Tryz.func60, Tryz.ntmps60
  go_wp2_with (fail)
  refine (HOF.out _).mono ?_
  unfold OfPost
  rintro e w1 ⟨rfl, hk⟩
  have HZ1 := Lib.hid (HZ.out.fresh hk)
  clear hk HZ
  obtain ⟨c0, c1, c2, c3, c4, c5, c6, c7, c8, c9, c10⟩ := HZ1.out.S
  go_wp2
  go_ret
  exact ⟨rfl, HZ1.out.k⟩
set_option maxRecDepth 100000 in
set_option maxHeartbeats 1600000 in
theorem ochk_4 (ds dq kind it is rt rs site : Int) (deps : List Dt) (text : ByteArray) (dA gA : Option Addr) (dc gl gc : Nat) (w : World) (T : TypeId) (x : Value)
    (HOF : Hid (∀ W, Calls Tryz.prog 77 #[.agg #[.int .i64 ds, .int .i64 dq, .slice dA deps.length dc, .int .i64 kind, .int .i64 it, .int .i64 is, .int .i64 rt, .int .i64 rs, .string text, .slice gA gl gc, .int .i64 site]] W (OfPost W (.iface T x))))
    (hd : DotsAt w dA deps) (h1 : 1 ≤ ds) (h2 : ds ≤ 16) (_h3 : 1 ≤ dq) (h4 : 2147483647 < dq) :
    Calls Tryz.prog 60 #[.agg #[.int .i64 ds, .int .i64 dq, .slice dA deps.length dc, .int .i64 kind, .int .i64 it, .int .i64 is, .int .i64 rt, .int .i64 rs, .string text, .slice gA gl gc, .int .i64 site]] w (IntPost w 10) := by
  have hnil : ∀ W : World, (binOp .eql 134 (.iface T x) .nilIface).run Tryz.prog W = .ok (.bool false) W := fun _ => rfl
  have HZ := Lib.hid (show CB w w.heap.size dA deps #[.int .i64 ds, .int .i64 dq, .slice dA deps.length dc, .int .i64 kind, .int .i64 it, .int .i64 is, .int .i64 rt, .int .i64 rs, .string text, .slice gA gl gc, .int .i64 site] (w.alloc (.cells #[.int .i64 ds, .int .i64 dq, .slice dA deps.length dc, .int .i64 kind, .int .i64 it, .int .i64 is, .int .i64 rt, .int .i64 rs, .string text, .slice gA gl gc, .int .i64 site] 64)) from ⟨Box.new w _ _, hd.kept ((Kept.refl (fun _ => False) w).alloc _) fun _ _ h => h, (Kept.refl _ _).alloc _⟩)
  clear hd
  go_enter Tryz.func60, Tryz.ntmps60
  go_wp2_with (fail)
  refine (HOF.out _).mono ?_
  unfold OfPost
  rintro e w1 ⟨rfl, hk⟩
  have HZ1 := Lib.hid (HZ.out.fresh hk)
  clear hk HZ
  obtain ⟨c0, c1, c2, c3, c4, c5, c6, c7, c8, c9, c10⟩ := HZ1.out.S
  go_wp2
  go_ret
  exact ⟨rfl, HZ1.out.k⟩
set_option maxRecDepth 100000 in
set_option maxHeartbeats 1600000 in
theorem ochk_5 (ds dq kind it is rt rs site : Int) (deps : List Dt) (text : ByteArray) (dA gA : Option Addr) (dc gl gc : Nat) (w : World) (T : TypeId) (x : Value)
    (HOF : Hid (∀ W, Calls Tryz.prog 77 #[.agg #[.int .i64 ds, .int .i64 dq, .slice dA deps.length dc, .int .i64 kind, .int .i64 it, .int .i64 is, .int .i64 rt, .int .i64 rs, .string text, .slice gA gl gc, .int .i64 site]] W (OfPost W (.iface T x))))
    (hd : DotsAt w dA deps) (hl : deps.length ≤ 4611686018427387904) (h1 : 1 ≤ ds) (h2 : ds ≤ 16) (h3 : 1 ≤ dq) (h4 : dq ≤ 2147483647) (h5 : checkV deps ≠ 0) :
    Calls Tryz.prog 60 #[.agg #[.int .i64 ds, .int .i64 dq, .slice dA deps.length dc, .int .i64 kind, .int .i64 it, .int .i64 is, .int .i64 rt, .int .i64 rs, .string text, .slice gA gl gc, .int .i64 site]] w (IntPost w 10) := by
  have hnil : ∀ W : World, (binOp .eql 134 (.iface T x) .nilIface).run Tryz.prog W = .ok (.bool false) W := fun _ => rfl
  have HZ := Lib.hid (show CB w w.heap.size dA deps #[.int .i64 ds, .int .i64 dq, .slice dA deps.length dc, .int .i64 kind, .int .i64 it, .int .i64 is, .int .i64 rt, .int .i64 rs, .string text, .slice gA gl gc, .int .i64 site] (w.alloc (.cells #[.int .i64 ds, .int .i64 dq, .slice dA deps.length dc, .int .i64 kind, .int .i64 it, .int .i64 is, .int .i64 rt, .int .i64 rs, .string text, .slice gA gl gc, .int .i64 site] 64)) from ⟨Box.new w _ _, hd.kept ((Kept.refl (fun _ => False) w).alloc _) fun _ _ h => h, (Kept.refl _ _).alloc _⟩)
  clear hd
  obtain ⟨z5, hz5⟩ : ∃ z, checkV deps = z := ⟨_, rfl⟩
  have HC := Lib.hid (fun (W : World) (h : DotsAt W dA deps) => Check_any dA deps dc W h hl)
  rw [hz5] at HC h5
  clear hz5
  have h5' : decide (z5 = 0) = false := decide_eq_false h5
  have h5'' : (z5 == 0) = false := beq_eq_false_iff_ne.mpr h5
  clear hl
  go_enter Tryz.func60, Tryz.ntmps60
  go_wp2_with (fail)
  refine (HOF.out _).mono ?_
  unfold OfPost
  rintro e w1 ⟨rfl, hk⟩
  have HZ1 := Lib.hid (HZ.out.fresh hk)
  clear hk HZ
  obtain ⟨c0, c1, c2, c3, c4, c5, c6, c7, c8, c9, c10⟩ := HZ1.out.S
  go_wp2_with (fail)
  refine (HC.out _ HZ1.out.d).mono ?_
  unfold IntPost
  rintro e w2 ⟨rfl, hk⟩
  have HZ2 := Lib.hid (HZ1.out.fresh hk)
  clear hk HZ1 c0 c1 c2 c3 c4 c5 c6 c7 c8 c9 c10
  obtain ⟨c0, c1, c2, c3, c4, c5, c6, c7, c8, c9, c10⟩ := HZ2.out.S
  go_wp2
  go_ret
  exact ⟨rfl, HZ2.out.k⟩
set_option maxRecDepth 100000 in
set_option maxHeartbeats 1600000 in
theorem ochk_6 (ds dq kind it is rt rs site : Int) (deps : List Dt) (text : ByteArray) (dA gA : Option Addr) (dc gl gc : Nat) (w : World) (T : TypeId) (x : Value)
    (HOF : Hid (∀ W, Calls Tryz.prog 77 #[.agg #[.int .i64 ds, .int .i64 dq, .slice dA deps.length dc, .int .i64 kind, .int .i64 it, .int .i64 is, .int .i64 rt, .int .i64 rs, .string text, .slice gA gl gc, .int .i64 site]] W (OfPost W (.iface T x))))
    (hd : DotsAt w dA deps) (hl : deps.length ≤ 4611686018427387904) (h1 : 1 ≤ ds) (h2 : ds ≤ 16) (h3 : 1 ≤ dq) (h4 : dq ≤ 2147483647) (h5 : checkV deps = 0) (h6 : getV deps ds ≠ dq - 1) :
    Calls Tryz.prog 60 #[.agg #[.int .i64 ds, .int .i64 dq, .slice dA deps.length dc, .int .i64 kind, .int .i64 it, .int .i64 is, .int .i64 rt, .int .i64 rs, .string text, .slice gA gl gc, .int .i64 site]] w (IntPost w 10) := by
  have hnil : ∀ W : World, (binOp .eql 134 (.iface T x) .nilIface).run Tryz.prog W = .ok (.bool false) W := fun _ => rfl
  have HZ := Lib.hid (show CB w w.heap.size dA deps #[.int .i64 ds, .int .i64 dq, .slice dA deps.length dc, .int .i64 kind, .int .i64 it, .int .i64 is, .int .i64 rt, .int .i64 rs, .string text, .slice gA gl gc, .int .i64 site] (w.alloc (.cells #[.int .i64 ds, .int .i64 dq, .slice dA deps.length dc, .int .i64 kind, .int .i64 it, .int .i64 is, .int .i64 rt, .int .i64 rs, .string text, .slice gA gl gc, .int .i64 site] 64)) from ⟨Box.new w _ _, hd.kept ((Kept.refl (fun _ => False) w).alloc _) fun _ _ h => h, (Kept.refl _ _).alloc _⟩)
  clear hd
  obtain ⟨z5, hz5⟩ : ∃ z, checkV deps = z := ⟨_, rfl⟩
  have HC := Lib.hid (fun (W : World) (h : DotsAt W dA deps) => Check_any dA deps dc W h hl)
  rw [hz5] at HC h5
  clear hz5
  subst h5
  obtain ⟨z6, hz6⟩ : ∃ z, getV deps ds = z := ⟨_, rfl⟩
  have HG := Lib.hid (fun (W : World) (h : DotsAt W dA deps) => Get_any dA deps dc ds W h hl)
  rw [hz6] at HG h6
  clear hz6
  have h6' : (z6 == dq - 1) = false := beq_eq_false_iff_ne.mpr h6
  have hwr : IntKind.i64.wrap (dq - 1) = dq - 1 := IntWalk.i64_in _ ⟨by omega, by omega⟩
  clear hl
  go_enter Tryz.func60, Tryz.ntmps60
  go_wp2_with (fail)
  refine (HOF.out _).mono ?_
  unfold OfPost
  rintro e w1 ⟨rfl, hk⟩
  have HZ1 := Lib.hid (HZ.out.fresh hk)
  clear hk HZ
  obtain ⟨c0, c1, c2, c3, c4, c5, c6, c7, c8, c9, c10⟩ := HZ1.out.S
  go_wp2_with (fail)
  refine (HC.out _ HZ1.out.d).mono ?_
  unfold IntPost
  rintro e w2 ⟨rfl, hk⟩
  have HZ2 := Lib.hid (HZ1.out.fresh hk)
  clear hk HZ1 c0 c1 c2 c3 c4 c5 c6 c7 c8 c9 c10
  obtain ⟨c0, c1, c2, c3, c4, c5, c6, c7, c8, c9, c10⟩ := HZ2.out.S
  go_wp2_with (fail)
  refine wp_region_class (C := fun w' => CB w w.heap.size dA deps #[.int .i64 ds, .int .i64 dq, .slice dA deps.length dc, .int .i64 kind, .int .i64 it, .int .i64 is, .int .i64 rt, .int .i64 rs, .string text, .slice gA gl gc, .int .i64 site] w') (by kernel_rfl) (by kernel_rfl) HZ2.out.drew ?_
  repeat
    first | go_big_quiet_skip | (go_big_quiet_want; first | (go_big_quiet_op; go_big_quiet_on) | (apply Exists.intro; refine ⟨fun w' hS => ?_, ?_⟩; (have HJ := hS; obtain ⟨d0, d1, d2, d3, d4, d5, d6, d7, d8, d9, d10⟩ := CB.S hS; go_simp; first | rfl | exact ⟨rfl, rfl⟩ | ((with_reducible refine (HG.out _ HJ.d).mono ?_); unfold IntPost; rintro e w2 ⟨rfl, hk⟩; exact ⟨rfl, CB.fresh HJ hk⟩)); (try simp only [Act.put, List.setIfInBounds_toArray, List.set_cons_zero, List.set_cons_succ]); go_big_quiet_on))
  refine wpQuiet_nil ?_
  intro w3 hJ
  have HZ3 := Lib.hid hJ
  clear hJ HZ2 c0 c1 c2 c3 c4 c5 c6 c7 c8 c9 c10
  obtain ⟨c0, c1, c2, c3, c4, c5, c6, c7, c8, c9, c10⟩ := HZ3.out.S
  go_wp2
  go_ret
  exact ⟨rfl, HZ3.out.k⟩
set_option maxRecDepth 100000 in
set_option maxHeartbeats 1600000 in
theorem ochk_7 (ds dq kind it is rt rs site : Int) (deps : List Dt) (text : ByteArray) (dA gA : Option Addr) (dc gl gc : Nat) (w : World) (T : TypeId) (x : Value) (K : Nat) (r : Value) (b : Bool)
    (HOF : Hid (∀ W, Calls Tryz.prog 77 #[.agg #[.int .i64 ds, .int .i64 dq, .slice dA deps.length dc, .int .i64 kind, .int .i64 it, .int .i64 is, .int .i64 rt, .int .i64 rs, .string text, .slice gA gl gc, .int .i64 site]] W (OfPost W (.iface T x))))
    (hm : ∀ W : World, (method 307 T x "hearsay/op.right").run Tryz.prog W = .ok (K, r) W) (hcf : ∀ (W : World) (a : Array Value), (callFunc K a).run Tryz.prog W = .ok (.enter K a) W)
    (HR : Hid (∀ W, Kept (fun _ => False) w W → Calls Tryz.prog K #[r, .agg #[.int .i64 ds, .int .i64 dq, .slice dA deps.length dc, .int .i64 kind, .int .i64 it, .int .i64 is, .int .i64 rt, .int .i64 rs, .string text, .slice gA gl gc, .int .i64 site]] W (BoolPost W b)))
    (hd : DotsAt w dA deps) (hl : deps.length ≤ 4611686018427387904) (h1 : 1 ≤ ds) (h2 : ds ≤ 16) (h3 : 1 ≤ dq) (h4 : dq ≤ 2147483647) (h5 : checkV deps = 0) (h6 : getV deps ds = dq - 1) (h7 : b = false) :
    Calls Tryz.prog 60 #[.agg #[.int .i64 ds, .int .i64 dq, .slice dA deps.length dc, .int .i64 kind, .int .i64 it, .int .i64 is, .int .i64 rt, .int .i64 rs, .string text, .slice gA gl gc, .int .i64 site]] w (IntPost w 10) := by
  have hnil : ∀ W : World, (binOp .eql 134 (.iface T x) .nilIface).run Tryz.prog W = .ok (.bool false) W := fun _ => rfl
  have HZ := Lib.hid (show CB w w.heap.size dA deps #[.int .i64 ds, .int .i64 dq, .slice dA deps.length dc, .int .i64 kind, .int .i64 it, .int .i64 is, .int .i64 rt, .int .i64 rs, .string text, .slice gA gl gc, .int .i64 site] (w.alloc (.cells #[.int .i64 ds, .int .i64 dq, .slice dA deps.length dc, .int .i64 kind, .int .i64 it, .int .i64 is, .int .i64 rt, .int .i64 rs, .string text, .slice gA gl gc, .int .i64 site] 64)) from ⟨Box.new w _ _, hd.kept ((Kept.refl (fun _ => False) w).alloc _) fun _ _ h => h, (Kept.refl _ _).alloc _⟩)
  clear hd
  obtain ⟨z5, hz5⟩ : ∃ z, checkV deps = z := ⟨_, rfl⟩
  have HC := Lib.hid (fun (W : World) (h : DotsAt W dA deps) => Check_any dA deps dc W h hl)
  rw [hz5] at HC h5
  clear hz5
  subst h5
  obtain ⟨z6, hz6⟩ : ∃ z, getV deps ds = z := ⟨_, rfl⟩
  have HG := Lib.hid (fun (W : World) (h : DotsAt W dA deps) => Get_any dA deps dc ds W h hl)
  rw [hz6] at HG h6
  clear hz6
  subst h6
  subst h7
  have hwr : IntKind.i64.wrap (dq - 1) = dq - 1 := IntWalk.i64_in _ ⟨by omega, by omega⟩
  clear hl
  go_enter Tryz.func60, Tryz.ntmps60
  go_wp2_with (fail)
  refine (HOF.out _).mono ?_
  unfold OfPost
  rintro e w1 ⟨rfl, hk⟩
  have HZ1 := Lib.hid (HZ.out.fresh hk)
  clear hk HZ
  obtain ⟨c0, c1, c2, c3, c4, c5, c6, c7, c8, c9, c10⟩ := HZ1.out.S
  go_wp2_with (fail)
  refine (HC.out _ HZ1.out.d).mono ?_
  unfold IntPost
  rintro e w2 ⟨rfl, hk⟩
  have HZ2 := Lib.hid (HZ1.out.fresh hk)
  clear hk HZ1 c0 c1 c2 c3 c4 c5 c6 c7 c8 c9 c10
  obtain ⟨c0, c1, c2, c3, c4, c5, c6, c7, c8, c9, c10⟩ := HZ2.out.S
  go_wp2_with (fail)
  refine wp_region_class (C := fun w' => CB w w.heap.size dA deps #[.int .i64 ds, .int .i64 dq, .slice dA deps.length dc, .int .i64 kind, .int .i64 it, .int .i64 is, .int .i64 rt, .int .i64 rs, .string text, .slice gA gl gc, .int .i64 site] w') (by kernel_rfl) (by kernel_rfl) HZ2.out.drew ?_
  repeat
    first | go_big_quiet_skip | (go_big_quiet_want; first | (go_big_quiet_op; go_big_quiet_on) | (apply Exists.intro; refine ⟨fun w' hS => ?_, ?_⟩; (have HJ := hS; obtain ⟨d0, d1, d2, d3, d4, d5, d6, d7, d8, d9, d10⟩ := CB.S hS; go_simp; first | rfl | exact ⟨rfl, rfl⟩ | ((with_reducible refine (HG.out _ HJ.d).mono ?_); unfold IntPost; rintro e w2 ⟨rfl, hk⟩; exact ⟨rfl, CB.fresh HJ hk⟩)); (try simp only [Act.put, List.setIfInBounds_toArray, List.set_cons_zero, List.set_cons_succ]); go_big_quiet_on))
  refine wpQuiet_nil ?_
  intro w3 hJ
  have HZ3 := Lib.hid hJ
  clear hJ HZ2 c0 c1 c2 c3 c4 c5 c6 c7 c8 c9 c10
  obtain ⟨c0, c1, c2, c3, c4, c5, c6, c7, c8, c9, c10⟩ := HZ3.out.S
  go_wp2_with (fail)
  refine (HR.out _ HZ3.out.k).mono ?_
  unfold BoolPost
  rintro e w4 ⟨rfl, hk⟩
  have HZ4 := Lib.hid (HZ3.out.fresh hk)
  clear hk HZ3 c0 c1 c2 c3 c4 c5 c6 c7 c8 c9 c10
  obtain ⟨c0, c1, c2, c3, c4, c5, c6, c7, c8, c9, c10⟩ := HZ4.out.S
  go_wp2
  go_ret
  exact ⟨rfl, HZ4.out.k⟩
set_option maxRecDepth 100000 in
set_option maxHeartbeats 1600000 in
theorem ochk_8 (ds dq kind it is rt rs site : Int) (deps : List Dt) (text : ByteArray) (dA gA : Option Addr) (dc gl gc : Nat) (w : World) (T : TypeId) (x : Value) (K : Nat) (r : Value) (b : Bool)
    (HOF : Hid (∀ W, Calls Tryz.prog 77 #[.agg #[.int .i64 ds, .int .i64 dq, .slice dA deps.length dc, .int .i64 kind, .int .i64 it, .int .i64 is, .int .i64 rt, .int .i64 rs, .string text, .slice gA gl gc, .int .i64 site]] W (OfPost W (.iface T x))))
    (hm : ∀ W : World, (method 307 T x "hearsay/op.right").run Tryz.prog W = .ok (K, r) W) (hcf : ∀ (W : World) (a : Array Value), (callFunc K a).run Tryz.prog W = .ok (.enter K a) W)
    (HR : Hid (∀ W, Kept (fun _ => False) w W → Calls Tryz.prog K #[r, .agg #[.int .i64 ds, .int .i64 dq, .slice dA deps.length dc, .int .i64 kind, .int .i64 it, .int .i64 is, .int .i64 rt, .int .i64 rs, .string text, .slice gA gl gc, .int .i64 site]] W (BoolPost W b)))
    (hd : DotsAt w dA deps) (hl : deps.length ≤ 4611686018427387904) (h1 : 1 ≤ ds) (h2 : ds ≤ 16) (h3 : 1 ≤ dq) (h4 : dq ≤ 2147483647) (h5 : checkV deps = 0) (h6 : getV deps ds = dq - 1) (h7 : b = true) :
    Calls Tryz.prog 60 #[.agg #[.int .i64 ds, .int .i64 dq, .slice dA deps.length dc, .int .i64 kind, .int .i64 it, .int .i64 is, .int .i64 rt, .int .i64 rs, .string text, .slice gA gl gc, .int .i64 site]] w (IntPost w 0) := by
  have hnil : ∀ W : World, (binOp .eql 134 (.iface T x) .nilIface).run Tryz.prog W = .ok (.bool false) W := fun _ => rfl
  have HZ := Lib.hid (show CB w w.heap.size dA deps #[.int .i64 ds, .int .i64 dq, .slice dA deps.length dc, .int .i64 kind, .int .i64 it, .int .i64 is, .int .i64 rt, .int .i64 rs, .string text, .slice gA gl gc, .int .i64 site] (w.alloc (.cells #[.int .i64 ds, .int .i64 dq, .slice dA deps.length dc, .int .i64 kind, .int .i64 it, .int .i64 is, .int .i64 rt, .int .i64 rs, .string text, .slice gA gl gc, .int .i64 site] 64)) from ⟨Box.new w _ _, hd.kept ((Kept.refl (fun _ => False) w).alloc _) fun _ _ h => h, (Kept.refl _ _).alloc _⟩)
  clear hd
  obtain ⟨z5, hz5⟩ : ∃ z, checkV deps = z := ⟨_, rfl⟩
  have HC := Lib.hid (fun (W : World) (h : DotsAt W dA deps) => Check_any dA deps dc W h hl)
  rw [hz5] at HC h5
  clear hz5
  subst h5
  obtain ⟨z6, hz6⟩ : ∃ z, getV deps ds = z := ⟨_, rfl⟩
  have HG := Lib.hid (fun (W : World) (h : DotsAt W dA deps) => Get_any dA deps dc ds W h hl)
  rw [hz6] at HG h6
  clear hz6
  subst h6
  subst h7
  have hwr : IntKind.i64.wrap (dq - 1) = dq - 1 := IntWalk.i64_in _ ⟨by omega, by omega⟩
  clear hl
  go_enter Tryz.func60, Tryz.ntmps60
  go_wp2_with (fail)
  refine (HOF.out _).mono ?_
  unfold OfPost
  rintro e w1 ⟨rfl, hk⟩
  have HZ1 := Lib.hid (HZ.out.fresh hk)
  clear hk HZ
  obtain ⟨c0, c1, c2, c3, c4, c5, c6, c7, c8, c9, c10⟩ := HZ1.out.S
  go_wp2_with (fail)
  refine (HC.out _ HZ1.out.d).mono ?_
  unfold IntPost
  rintro e w2 ⟨rfl, hk⟩
  have HZ2 := Lib.hid (HZ1.out.fresh hk)
  clear hk HZ1 c0 c1 c2 c3 c4 c5 c6 c7 c8 c9 c10
  obtain ⟨c0, c1, c2, c3, c4, c5, c6, c7, c8, c9, c10⟩ := HZ2.out.S
  go_wp2_with (fail)
  refine wp_region_class (C := fun w' => CB w w.heap.size dA deps #[.int .i64 ds, .int .i64 dq, .slice dA deps.length dc, .int .i64 kind, .int .i64 it, .int .i64 is, .int .i64 rt, .int .i64 rs, .string text, .slice gA gl gc, .int .i64 site] w') (by kernel_rfl) (by kernel_rfl) HZ2.out.drew ?_
  repeat
    first | go_big_quiet_skip | (go_big_quiet_want; first | (go_big_quiet_op; go_big_quiet_on) | (apply Exists.intro; refine ⟨fun w' hS => ?_, ?_⟩; (have HJ := hS; obtain ⟨d0, d1, d2, d3, d4, d5, d6, d7, d8, d9, d10⟩ := CB.S hS; go_simp; first | rfl | exact ⟨rfl, rfl⟩ | ((with_reducible refine (HG.out _ HJ.d).mono ?_); unfold IntPost; rintro e w2 ⟨rfl, hk⟩; exact ⟨rfl, CB.fresh HJ hk⟩)); (try simp only [Act.put, List.setIfInBounds_toArray, List.set_cons_zero, List.set_cons_succ]); go_big_quiet_on))
  refine wpQuiet_nil ?_
  intro w3 hJ
  have HZ3 := Lib.hid hJ
  clear hJ HZ2 c0 c1 c2 c3 c4 c5 c6 c7 c8 c9 c10
  obtain ⟨c0, c1, c2, c3, c4, c5, c6, c7, c8, c9, c10⟩ := HZ3.out.S
  go_wp2_with (fail)
  refine (HR.out _ HZ3.out.k).mono ?_
  unfold BoolPost
  rintro e w4 ⟨rfl, hk⟩
  have HZ4 := Lib.hid (HZ3.out.fresh hk)
  clear hk HZ3 c0 c1 c2 c3 c4 c5 c6 c7 c8 c9 c10
  obtain ⟨c0, c1, c2, c3, c4, c5, c6, c7, c8, c9, c10⟩ := HZ4.out.S
  go_wp2
  go_ret
  exact ⟨rfl, HZ4.out.k⟩
end Go.Proofs.YtnajbkccaclkcaaGreat

namespace Go.Proofs.YtnajbkccaclkcaaGreat
open Go Go.RowKit

theorem Kept.iterAt {S : Nat → Prop} {w w' : World} (h : Kept S w w') {k : Nat} (s : ByteArray) (i : Nat) (hk : w.heap.size ≤ k) : Kept S w (w'.iterAt k s i) :=
  ⟨h.os, h.tape, h.output, by rw [Lib.iterAt_size]; exact h.size, fun j hj hS => by rw [Lib.iterAt_other _ _ _ _ _ (by omega)]; exact h.block j hj hS⟩

set_option maxRecDepth 100000 in
theorem Count_any (s : ByteArray) (w : World) (hs : s.size ≤ 4611686018427387904) : Calls Tryz.prog 142 #[.string s] w (IntPost w (cnt s)) := by
  have hc := cnt_le s
  obtain ⟨c, hcc⟩ : ∃ c, cnt s = c := ⟨_, rfl⟩
  have HC := Lib.hid hcc
  rw [hcc] at hc ⊢
  clear hcc
  go_enter Tryz.func142, Tryz.ntmps142
  go_wp2
  go_loopw [3] (fun n wr => ∃ (k pos : Nat), n = .int .i64 k ∧ wr.heap[w.heap.size]? = some (.stringIter s pos) ∧ k + (pcs s s.size pos).length = c ∧ Kept (fun _ => False) w wr) (fun _ wr => s.size - wr.iterPos w.heap.size)
  case atStart => exact ⟨0, 0, rfl, World.iter_heap w s 0, by rw [← HC.out]; simp [cnt, cuts], (Kept.refl _ _).alloc _⟩
  case round =>
    obtain ⟨k, pos, rfl, hit, hsum, hk⟩ := hrel
    have HK := Lib.hid hk
    have HIT := Lib.hid hit
    by_cases hp : pos < s.size
    · have hnx : ∀ ty, (Instr.next (.pointer (some ⟨w.heap.size, 0, none⟩)) true ty).run Tryz.prog wr = _ := fun ty => Lib.run_next_any_at wr w.heap.size s pos ty hit hp
      rw [pcs_step hp (by omega), List.length_cons] at hsum
      have hk1 : k + 1 ≤ s.size := by omega
      have HSUM := Lib.hid hsum
      have hd := dec_pos s pos
      have HD := Lib.hid hd
      clear hk hsum hd
      go_wp2
      go_roundw
      case rel => exact ⟨k + 1, pos + (dec s pos).2, by go_num, Lib.iterAt_heap _ _ _ _ _ HIT.out, by have := HSUM.out; omega, HK.out.iterAt _ _ (Nat.le_refl _)⟩
      case measure =>
        have h1 : (wr.iterAt w.heap.size s (pos + (Utf8.decode s pos).2)).iterPos w.heap.size = pos + (dec s pos).2 := by
          unfold World.iterPos
          rw [Lib.iterAt_heap _ _ _ _ _ HIT.out]
          rfl
        have h2 : wr.iterPos w.heap.size = pos := by
          unfold World.iterPos
          rw [HIT.out]
        have := HD.out
        rw [h1, h2]
        omega
    · have hnx : ∀ ty, (Instr.next (.pointer (some ⟨w.heap.size, 0, none⟩)) true ty).run Tryz.prog wr = _ := fun ty => Lib.run_next_end_at wr w.heap.size s pos ty hit hp
      rw [pcs_end _ (by omega)] at hsum
      obtain rfl : k = c := by simpa using hsum
      clear hk hsum
      go_wp2
      go_ret
      exact ⟨rfl, HK.out⟩

theorem bits_mask (b : Nat) (hb : b < 256) : bits .and .u8 (b : Int) 192 = ((b / 64 * 64 : Nat) : Int) := by
  have : ∀ x : Fin 256, bits .and .u8 ((x.val : Nat) : Int) 192 = ((x.val / 64 * 64 : Nat) : Int) := by decide +kernel
  exact this ⟨b, hb⟩
theorem mask_iff (b : Nat) (hb : b < 256) : b / 64 * 64 = 128 ↔ goesOn b = true := by
  rw [goesOn_iff]
  omega
/-- What follows answers. -/
def Fol (s : ByteArray) (n lo hi : Nat) : Prop := n ≤ s.size ∧ (lo ≤ byt s 0 ∧ byt s 0 ≤ hi) ∧ ∀ i, 1 ≤ i → i < n → goesOn (byt s i) = true
def FolPost (w : World) (s : ByteArray) (n lo hi : Nat) (e : Ending) (w' : World) : Prop := ∃ b : Bool, e = .returned (.bool b) ∧ (b = true ↔ Fol s n lo hi) ∧ w' = w

set_option maxRecDepth 100000 in
theorem follows_any (s : ByteArray) (n : Nat) (lo hi : Nat) (w : World) (hn : n ≤ 3) (h0 : 0 < n) (hs : s.size ≤ 4611686018427387904) :
    Calls Tryz.prog 147 #[.string s, .int .i64 n, .int .u8 lo, .int .u8 hi] w (FolPost w s n lo hi) := by
  by_cases h1 : n ≤ s.size
  · have hz : 0 < s.size := by omega
    obtain ⟨b, hb⟩ : ∃ b, (s[0]'hz).toNat = b := ⟨_, rfl⟩
    have hbb : byt s 0 = b := by rw [← byt_get hz, hb]
    have HBB := Lib.hid hbb
    clear hbb
    by_cases h2 : lo ≤ b
    · by_cases h3 : b ≤ hi
      · go_enter Tryz.func147, Tryz.ntmps147
        go_wp2
        go_loopw [9] (fun i wr => wr = w ∧ ∃ k : Nat, i = .int .i64 k ∧ 1 ≤ k ∧ k ≤ n ∧ ∀ j, 1 ≤ j → j < k → goesOn (byt s j) = true) (fun i _ => n - (intOf i).toNat)
        case atStart => exact ⟨rfl, 1, rfl, by omega, by omega, fun j _ _ => by omega⟩
        case round =>
          obtain ⟨rfl, k, rfl, hk1, hk, hall⟩ := hrel
          have HALL := Lib.hid hall
          clear hall
          by_cases hlt : k < n
          · have hks : k < s.size := by omega
            obtain ⟨c, hc⟩ : ∃ c, (s[k]'hks).toNat = c := ⟨_, rfl⟩
            have hcc : byt s k = c := by rw [← byt_get hks, hc]
            have hc256 : c < 256 := by rw [← hcc]; exact byt_lt s k
            have hm := bits_mask c hc256
            have HM := Lib.hid (mask_iff c hc256)
            have HCC := Lib.hid hcc
            clear hcc
            by_cases hg : c / 64 * 64 = 128
            · have hx : ((c / 64 * 64 : Nat) : Int) = 128 := by omega
              rw [hx] at hm
              clear hx
              go_wp2
              go_roundw
              case rel => exact ⟨trivial, k + 1, by go_num, by omega, by omega, fun j h1 h2 => by
                by_cases hj : j < k
                · exact HALL.out j h1 hj
                · obtain rfl : j = k := by omega
                  rw [HCC.out]
                  exact HM.out.1 hg⟩
              case measure => simp [intOf]; omega
            · have hx : ((c / 64 * 64 : Nat) : Int) ≠ 128 := by omega
              generalize ((c / 64 * 64 : Nat) : Int) = q at hm hx
              go_wp2
              go_ret
              refine ⟨false, rfl, ⟨fun e => absurd e (by decide), fun h => ?_⟩, rfl⟩
              have := h.2.2 k hk1 hlt
              rw [HCC.out] at this
              exact absurd (HM.out.2 this) hg
          · obtain rfl : k = n := by omega
            go_wp2
            go_ret
            exact ⟨true, rfl, ⟨fun _ => ⟨h1, ⟨by rw [HBB.out]; exact h2, by rw [HBB.out]; exact h3⟩, HALL.out⟩, fun _ => rfl⟩, rfl⟩
      · have h3' : hi < b := by omega
        go_enter Tryz.func147, Tryz.ntmps147
        go_wp2
        go_ret
        exact ⟨false, rfl, ⟨fun e => absurd e (by decide), fun h => by have := h.2.1.2; rw [HBB.out] at this; omega⟩, rfl⟩
    · have h2' : b < lo := by omega
      go_enter Tryz.func147, Tryz.ntmps147
      go_wp2
      go_ret
      exact ⟨false, rfl, ⟨fun e => absurd e (by decide), fun h => by have := h.2.1.1; rw [HBB.out] at this; omega⟩, rfl⟩
  · have h1' : s.size < n := by omega
    go_enter Tryz.func147, Tryz.ntmps147
    go_wp2
    go_ret
    exact ⟨false, rfl, ⟨fun e => absurd e (by decide), fun h => absurd h.1 h1⟩, rfl⟩

theorem byt_extract {s : ByteArray} {i k : Nat} (h : i ≤ s.size) : byt (s.extract i s.size) k = byt s (i + k) := by
  by_cases hk : i + k < s.size
  · have h1 : k < (s.extract i s.size).size := by simp; omega
    rw [← byt_get h1, ← byt_get hk]
    show ((s.extract i s.size).data[k]'(by simpa using h1)).toNat = (s.data[i + k]'(by simpa using hk)).toNat
    simp
  · rw [byt_end (by simp; omega), byt_end (by omega)]
/-- width: how many bytes the rune has that a text begins with; 0: none does. -/
def WidPost (w : World) (s : ByteArray) (e : Ending) (w' : World) : Prop := e = .returned (.int .i64 (begN s 0)) ∧ w' = w
theorem size_tail (s : ByteArray) : (s.extract 1 s.size).size = s.size - 1 := by simp
theorem fol_iff {s : ByteArray} (hs : 0 < s.size) (n lo hi : Nat) (hlo : 128 ≤ lo) (h0 : 0 < n) : Fol (s.extract 1 s.size) n lo hi ↔ (lo ≤ byt s 1 ∧ byt s 1 ≤ hi) ∧ ∀ i, 2 ≤ i → i < n + 1 → goesOn (byt s i) = true := by
  unfold Fol
  rw [byt_extract (by omega), size_tail s]
  constructor
  · rintro ⟨h1, h2, h3⟩
    refine ⟨h2, fun i hi1 hi2 => ?_⟩
    have := h3 (i - 1) (by omega) (by omega)
    rw [byt_extract (by omega)] at this
    rwa [show 1 + (i - 1) = i by omega] at this
  · rintro ⟨h2, h3⟩
    refine ⟨?_, h2, fun i hi1 hi2 => ?_⟩
    · have hz : ∀ k, 128 ≤ byt s k → k < s.size := fun k hk => by
        rcases Nat.lt_or_ge k s.size with h | h
        · exact h
        · rw [byt_end h] at hk; omega
      rcases Nat.lt_or_ge 1 n with h1 | h1
      · have h4 := h3 n (by omega) (by omega)
        rw [goesOn_iff] at h4
        have := hz _ h4.1
        omega
      · have := hz 1 (by omega)
        omega
    · rw [byt_extract (by omega)]
      exact h3 (1 + i) (by omega) (by omega)
theorem upto_one (p : Nat → Prop) : (∀ i, 2 ≤ i → i < 1 + 1 → p i) ↔ True := ⟨fun _ => trivial, fun _ i h1 h2 => by omega⟩
theorem upto_two (p : Nat → Prop) : (∀ i, 2 ≤ i → i < 2 + 1 → p i) ↔ p 2 := by
  refine ⟨fun h => h 2 (by omega) (by omega), fun h i h1 h2 => ?_⟩
  obtain rfl : i = 2 := by omega
  exact h
theorem upto_three (p : Nat → Prop) : (∀ i, 2 ≤ i → i < 3 + 1 → p i) ↔ p 2 ∧ p 3 := by
  refine ⟨fun h => ⟨h 2 (by omega) (by omega), h 3 (by omega) (by omega)⟩, fun h i h1 h2 => ?_⟩
  rcases (by omega : i = 2 ∨ i = 3) with rfl | rfl
  · exact h.1
  · exact h.2
/-- How many bytes go on the rune that byte a begins, the first of them from lo to hi. -/
def Lead (a n lo hi : Nat) : Prop :=
  ((194 ≤ a ∧ a ≤ 223) ∧ n = 1 ∧ lo = 128 ∧ hi = 191) ∨ (a = 224 ∧ n = 2 ∧ lo = 160 ∧ hi = 191) ∨ (a = 237 ∧ n = 2 ∧ lo = 128 ∧ hi = 159) ∨
  ((225 ≤ a ∧ a ≤ 236 ∨ 238 ≤ a ∧ a ≤ 239) ∧ n = 2 ∧ lo = 128 ∧ hi = 191) ∨ (a = 240 ∧ n = 3 ∧ lo = 144 ∧ hi = 191) ∨ (a = 244 ∧ n = 3 ∧ lo = 128 ∧ hi = 143) ∨ ((241 ≤ a ∧ a ≤ 243) ∧ n = 3 ∧ lo = 128 ∧ hi = 191)
theorem beg_fol {s : ByteArray} (hs : 0 < s.size) {a n lo hi : Nat} (ha : byt s 0 = a) (h : Lead a n lo hi) : (Fol (s.extract 1 s.size) n lo hi → begN s 0 = n + 1) ∧ (¬ Fol (s.extract 1 s.size) n lo hi → begN s 0 = 0) := by
  rw [fol_iff hs n lo hi (by unfold Lead at h; omega) (by unfold Lead at h; omega)]
  unfold begN
  rw [ha]
  simp only [Nat.zero_add]
  generalize byt s 1 = b at *
  rcases h with ⟨h, rfl, rfl, rfl⟩ | ⟨h, rfl, rfl, rfl⟩ | ⟨h, rfl, rfl, rfl⟩ | ⟨h, rfl, rfl, rfl⟩ | ⟨h, rfl, rfl, rfl⟩ | ⟨h, rfl, rfl, rfl⟩ | ⟨h, rfl, rfl, rfl⟩
  · rw [upto_one]
    unfold beg4
    simp only [goesOn_iff, and_true]
    rw [if_neg (by omega)]
    exact ⟨fun e => by rw [if_pos (by omega)], fun e => by rw [if_neg (by omega), if_neg (by omega), if_neg (by omega)]⟩
  iterate 3
    · rw [upto_two]
      unfold beg4
      simp only [goesOn_iff]
      rw [if_neg (by omega), if_neg (by omega)]
      exact ⟨fun e => by rw [if_pos (by omega)], fun e => by rw [if_neg (by omega), if_neg (by omega)]⟩
  iterate 3
    · rw [upto_three]
      unfold beg4
      simp only [goesOn_iff]
      rw [if_neg (by omega), if_neg (by omega), if_neg (by omega)]
      exact ⟨fun e => by rw [if_pos (by omega)], fun e => by rw [if_neg (by omega)]⟩

set_option maxRecDepth 100000 in
set_option maxHeartbeats 3200000 in
theorem width_any (s : ByteArray) (w : World) (hs : 0 < s.size) (hsz : s.size ≤ 4611686018427387904) : Calls Tryz.prog 146 #[.string s] w (WidPost w s) := by
  obtain ⟨a, hb⟩ : ∃ a, (s[0]'hs).toNat = a := ⟨_, rfl⟩
  have hba : byt s 0 = a := by rw [← byt_get hs, hb]
  have ha : a < 256 := by rw [← hba]; exact byt_lt s 0
  obtain ⟨x, hx⟩ : ∃ x, begN s 0 = x := ⟨_, rfl⟩
  have HX := Lib.hid hx
  have HBA := Lib.hid hba
  have HF := Lib.hid (fun n lo hi h => beg_fol hs (a := a) (n := n) (lo := lo) (hi := hi) hba h)
  have hxs : (s.extract 1 s.size).size ≤ 4611686018427387904 := by rw [size_tail]; omega
  unfold WidPost
  rw [hx]
  clear hba hx
  rcases (by omega : a < 128 ∨ (128 ≤ a ∧ a < 194) ∨ 244 < a ∨ (194 ≤ a ∧ a < 224) ∨ a = 224 ∨ a = 237 ∨ ((225 ≤ a ∧ a ≤ 236)) ∨ (238 ≤ a ∧ a ≤ 239) ∨ a = 240 ∨ a = 244 ∨ (241 ≤ a ∧ a ≤ 243)) with h | h | h | h | h | h | h | h | h | h | h
  · obtain rfl : x = 1 := by rw [← HX.out]; unfold begN beg4; rw [HBA.out, if_pos (by omega)]
    go_enter Tryz.func146, Tryz.ntmps146
    go_wp2
    go_ret
    exact ⟨rfl, rfl⟩
  iterate 2
    · obtain rfl : x = 0 := by rw [← HX.out]; unfold begN beg4; rw [HBA.out, if_neg (by omega), if_neg (by omega), if_neg (by omega), if_neg (by omega)]
      go_enter Tryz.func146, Tryz.ntmps146
      go_wp2
      go_ret
      exact ⟨rfl, rfl⟩
  · have hl := HF.out 1 128 191 (by unfold Lead; omega)
    rw [HX.out] at hl
    have HL := Lib.hid hl
    clear hl
    go_enter Tryz.func146, Tryz.ntmps146
    go_wp2_with (fail)
    refine (follows_any (s.extract 1 s.size) 1 128 191 _ (by omega) (by omega) hxs).mono ?_
    rintro e w' ⟨b, rfl, hb', rfl⟩
    cases b
    · obtain rfl := HL.out.2 fun h => absurd (hb'.2 h) (by decide)
      clear hb'
      go_wp2
      go_ret
      exact ⟨rfl, rfl⟩
    · obtain rfl := HL.out.1 (hb'.1 rfl)
      clear hb'
      go_wp2
      go_ret
      exact ⟨rfl, rfl⟩
  · have hl := HF.out 2 160 191 (by unfold Lead; omega)
    rw [HX.out] at hl
    have HL := Lib.hid hl
    clear hl
    go_enter Tryz.func146, Tryz.ntmps146
    go_wp2_with (fail)
    refine (follows_any (s.extract 1 s.size) 2 160 191 _ (by omega) (by omega) hxs).mono ?_
    rintro e w' ⟨b, rfl, hb', rfl⟩
    cases b
    · obtain rfl := HL.out.2 fun h => absurd (hb'.2 h) (by decide)
      clear hb'
      go_wp2
      go_ret
      exact ⟨rfl, rfl⟩
    · obtain rfl := HL.out.1 (hb'.1 rfl)
      clear hb'
      go_wp2
      go_ret
      exact ⟨rfl, rfl⟩
  · have hl := HF.out 2 128 159 (by unfold Lead; omega)
    rw [HX.out] at hl
    have HL := Lib.hid hl
    clear hl
    go_enter Tryz.func146, Tryz.ntmps146
    go_wp2_with (fail)
    refine (follows_any (s.extract 1 s.size) 2 128 159 _ (by omega) (by omega) hxs).mono ?_
    rintro e w' ⟨b, rfl, hb', rfl⟩
    cases b
    · obtain rfl := HL.out.2 fun h => absurd (hb'.2 h) (by decide)
      clear hb'
      go_wp2
      go_ret
      exact ⟨rfl, rfl⟩
    · obtain rfl := HL.out.1 (hb'.1 rfl)
      clear hb'
      go_wp2
      go_ret
      exact ⟨rfl, rfl⟩
  · have hl := HF.out 2 128 191 (by unfold Lead; omega)
    rw [HX.out] at hl
    have HL := Lib.hid hl
    clear hl
    go_enter Tryz.func146, Tryz.ntmps146
    go_wp2_with (fail)
    refine (follows_any (s.extract 1 s.size) 2 128 191 _ (by omega) (by omega) hxs).mono ?_
    rintro e w' ⟨b, rfl, hb', rfl⟩
    cases b
    · obtain rfl := HL.out.2 fun h => absurd (hb'.2 h) (by decide)
      clear hb'
      go_wp2
      go_ret
      exact ⟨rfl, rfl⟩
    · obtain rfl := HL.out.1 (hb'.1 rfl)
      clear hb'
      go_wp2
      go_ret
      exact ⟨rfl, rfl⟩
  · have hl := HF.out 2 128 191 (by unfold Lead; omega)
    rw [HX.out] at hl
    have HL := Lib.hid hl
    clear hl
    go_enter Tryz.func146, Tryz.ntmps146
    go_wp2_with (fail)
    refine (follows_any (s.extract 1 s.size) 2 128 191 _ (by omega) (by omega) hxs).mono ?_
    rintro e w' ⟨b, rfl, hb', rfl⟩
    cases b
    · obtain rfl := HL.out.2 fun h => absurd (hb'.2 h) (by decide)
      clear hb'
      go_wp2
      go_ret
      exact ⟨rfl, rfl⟩
    · obtain rfl := HL.out.1 (hb'.1 rfl)
      clear hb'
      go_wp2
      go_ret
      exact ⟨rfl, rfl⟩
  · have hl := HF.out 3 144 191 (by unfold Lead; omega)
    rw [HX.out] at hl
    have HL := Lib.hid hl
    clear hl
    go_enter Tryz.func146, Tryz.ntmps146
    go_wp2_with (fail)
    refine (follows_any (s.extract 1 s.size) 3 144 191 _ (by omega) (by omega) hxs).mono ?_
    rintro e w' ⟨b, rfl, hb', rfl⟩
    cases b
    · obtain rfl := HL.out.2 fun h => absurd (hb'.2 h) (by decide)
      clear hb'
      go_wp2
      go_ret
      exact ⟨rfl, rfl⟩
    · obtain rfl := HL.out.1 (hb'.1 rfl)
      clear hb'
      go_wp2
      go_ret
      exact ⟨rfl, rfl⟩
  · have hl := HF.out 3 128 143 (by unfold Lead; omega)
    rw [HX.out] at hl
    have HL := Lib.hid hl
    clear hl
    go_enter Tryz.func146, Tryz.ntmps146
    go_wp2_with (fail)
    refine (follows_any (s.extract 1 s.size) 3 128 143 _ (by omega) (by omega) hxs).mono ?_
    rintro e w' ⟨b, rfl, hb', rfl⟩
    cases b
    · obtain rfl := HL.out.2 fun h => absurd (hb'.2 h) (by decide)
      clear hb'
      go_wp2
      go_ret
      exact ⟨rfl, rfl⟩
    · obtain rfl := HL.out.1 (hb'.1 rfl)
      clear hb'
      go_wp2
      go_ret
      exact ⟨rfl, rfl⟩
  · have hl := HF.out 3 128 191 (by unfold Lead; omega)
    rw [HX.out] at hl
    have HL := Lib.hid hl
    clear hl
    go_enter Tryz.func146, Tryz.ntmps146
    go_wp2_with (fail)
    refine (follows_any (s.extract 1 s.size) 3 128 191 _ (by omega) (by omega) hxs).mono ?_
    rintro e w' ⟨b, rfl, hb', rfl⟩
    cases b
    · obtain rfl := HL.out.2 fun h => absurd (hb'.2 h) (by decide)
      clear hb'
      go_wp2
      go_ret
      exact ⟨rfl, rfl⟩
    · obtain rfl := HL.out.1 (hb'.1 rfl)
      clear hb'
      go_wp2
      go_ret
      exact ⟨rfl, rfl⟩
end Go.Proofs.YtnajbkccaclkcaaGreat
