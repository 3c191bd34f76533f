/- The walks of leave.right, join.right, remove.right. Conditions: the runs lie in memory as RunsAt says; numbers are those of Go's int. · The walk of remove.right. Conditions: the runs lie in memory as RunsAt says; numbers are those of Go's int. -/
import Derived.Test.YtnlklhlnnoihiaaMO19
import Derived.BigQuiet
namespace Go.Proofs.Ytnlklhlnnoihiaa
open Go Go.RowKit
theorem wp_region_class {P : Program} {C : World → Prop} {id : Nat} {Q : Exit → Act → World → Prop} {a : Act} {w : World} {l : List Oper} (hm : P.follows .mixedOrders = true) (hB : Region.lexB .any l.toArray = true) (hC : C w.drew)
    (h : wpQuiet P l.toArray C (fun a' => ∀ w', C w' → Q .normal a' w') l a) : (Code.region id l.toArray true).wp P Q a w := wp_region_quiet hm hB hC (by simpa using h)

/-- Has an operation no identifiers, no text, and no site? -/
def bareB (o : Opr) (s : Int) : Bool := sameRest o.id o.ref o.text o.site noId noId ⟨#[]⟩ s
set_option maxRecDepth 100000 in
set_option maxHeartbeats 1600000 in
theorem leave_any (o : Opr) (dA gA : Option Addr) (dc gc : Nat) (w : World) (hg : o.gone.length ≤ 1000000) : Calls Try.prog 126 #[.agg #[], .agg (o.cells dA dc gA gc)] w (BoolPost w (decide (o.gone.length = 0) && bareB o 0)) := by
  obtain ⟨⟨ds, dq⟩, deps, kind, ⟨it, is⟩, ⟨rt, rs⟩, text, gone, site⟩ := o
  obtain ⟨x, hx⟩ : ∃ x, bareB ⟨⟨ds, dq⟩, deps, kind, ⟨it, is⟩, ⟨rt, rs⟩, text, gone, site⟩ 0 = x := ⟨_, rfl⟩
  have hq := fun W => eql_rest ⟨it, is⟩ ⟨rt, rs⟩ text site noId noId ⟨#[]⟩ 0 W
  have hx' : sameRest ⟨it, is⟩ ⟨rt, rs⟩ text site noId noId ⟨#[]⟩ 0 = x := hx
  rw [hx'] at hq
  rw [hx]
  unfold restC noId at hq
  unfold Opr.cells
  simp only at hq hg ⊢
  clear hx hx'
  rcases Nat.eq_zero_or_pos gone.length with h0 | h0
  · obtain rfl := List.eq_nil_of_length_eq_zero h0
    have HK := Lib.hid (((Kept.refl (fun _ => False) w).alloc (.cells #[] 120)).alloc (.cells #[.int .i64 ds, .int .i64 dq, .slice dA deps.length dc, .int .i64 kind, .int .i64 it, .int .i64 is, .int .i64 rt, .int .i64 rs, .string text, .slice gA 0 gc, .int .i64 site] 30))
    have HR := Lib.hid fun W => restOf_any ⟨⟨ds, dq⟩, deps, kind, ⟨it, is⟩, ⟨rt, rs⟩, text, [], site⟩ dA gA dc gc W
    have hz : decide (([] : List Rn).length = 0) = true := rfl
    rw [hz, Bool.true_and]
    clear h0 hz hg
    show Calls Try.prog 126 #[.agg #[], .agg #[.int .i64 ds, .int .i64 dq, .slice dA deps.length dc, .int .i64 kind, .int .i64 it, .int .i64 is, .int .i64 rt, .int .i64 rs, .string text, .slice gA 0 gc, .int .i64 site]] w _
    go_enter Try.func126, Try.ntmps126
    go_wp2_with (fail)
    refine (HR.out _).mono ?_
    unfold OfPost restC
    rintro e w2 ⟨rfl, hk⟩
    have HK2 := Lib.hid (HK.out.trans hk fun _ _ e => e)
    clear hk
    go_wp2_with (fail)
    go_ret
    exact ⟨rfl, HK2.out⟩
  · have hd : decide (gone.length = 0) = false := decide_eq_false (by omega)
    rw [hd, Bool.false_and]
    have hne : ((gone.length : Nat) : Int) ≠ 0 := by omega
    have HK := Lib.hid (((Kept.refl (fun _ => False) w).alloc (.cells #[] 120)).alloc (.cells #[.int .i64 ds, .int .i64 dq, .slice dA deps.length dc, .int .i64 kind, .int .i64 it, .int .i64 is, .int .i64 rt, .int .i64 rs, .string text, .slice gA gone.length gc, .int .i64 site] 30))
    generalize gone.length = gl at *
    clear hq
    go_enter Try.func126, Try.ntmps126
    go_wp2_with (fail)
    go_ret
    exact ⟨rfl, HK.out⟩

/-- A join and the operation in boxes, ahead of whatever is done. -/
structure JB (w : World) (g : Nat) (jsite ds dq : Int) (dA : Option Addr) (dn dc : Nat) (kind it is rt rs : Int) (text : ByteArray) (gA : Option Addr) (gn gc : Nat) (site : Int) (W : World) : Prop where
  b1 : Box W g 118 #[.int .i64 jsite]
  b2 : Box W (g + 1) 30 #[.int .i64 ds, .int .i64 dq, .slice dA dn dc, .int .i64 kind, .int .i64 it, .int .i64 is, .int .i64 rt, .int .i64 rs, .string text, .slice gA gn gc, .int .i64 site]
  k : Kept (fun _ => False) w W
section
variable {w W W' : World} {g : Nat} {jsite ds dq : Int} {dA : Option Addr} {dn dc : Nat} {kind it is rt rs : Int} {text : ByteArray} {gA : Option Addr} {gn gc : Nat} {site : Int}
theorem JB.fresh (h : JB w g jsite ds dq dA dn dc kind it is rt rs text gA gn gc site W) (hk : Kept (fun _ => False) W W') : JB w g jsite ds dq dA dn dc kind it is rt rs text gA gn gc site W' := ⟨h.b1.kept hk id, h.b2.kept hk id, h.k.trans hk fun _ _ e => e⟩
theorem JB.drew (h : JB w g jsite ds dq dA dn dc kind it is rt rs text gA gn gc site W) : JB w g jsite ds dq dA dn dc kind it is rt rs text gA gn gc site W.drew := h.fresh (Kept.refl (fun _ => False) W).drew
theorem JB.S (h : JB w g jsite ds dq dA dn dc kind it is rt rs text gA gn gc site W) : W.cell? ⟨g, 0, none⟩ = some (.int .i64 jsite) ∧ W.cell? ⟨g + 1, 0, none⟩ = some (.int .i64 ds) ∧ W.cell? ⟨g + 1, 1, none⟩ = some (.int .i64 dq) ∧ W.cell? ⟨g + 1, 2, none⟩ = some (.slice dA dn dc) ∧ W.cell? ⟨g + 1, 3, none⟩ = some (.int .i64 kind) ∧ W.cell? ⟨g + 1, 4, none⟩ = some (.int .i64 it) ∧ W.cell? ⟨g + 1, 5, none⟩ = some (.int .i64 is) ∧ W.cell? ⟨g + 1, 6, none⟩ = some (.int .i64 rt) ∧ W.cell? ⟨g + 1, 7, none⟩ = some (.int .i64 rs) ∧ W.cell? ⟨g + 1, 8, none⟩ = some (.string text) ∧ W.cell? ⟨g + 1, 9, none⟩ = some (.slice gA gn gc) ∧ W.cell? ⟨g + 1, 10, none⟩ = some (.int .i64 site) ∧ Hid (JB w g jsite ds dq dA dn dc kind it is rt rs text gA gn gc site W) :=
  ⟨h.b1.cell 0, h.b2.cell 0, h.b2.cell 1, h.b2.cell 2, h.b2.cell 3, h.b2.cell 4, h.b2.cell 5, h.b2.cell 6, h.b2.cell 7, h.b2.cell 8, h.b2.cell 9, h.b2.cell 10, h⟩
theorem JB.ofS (h : W.cell? ⟨g, 0, none⟩ = some (.int .i64 jsite) ∧ W.cell? ⟨g + 1, 0, none⟩ = some (.int .i64 ds) ∧ W.cell? ⟨g + 1, 1, none⟩ = some (.int .i64 dq) ∧ W.cell? ⟨g + 1, 2, none⟩ = some (.slice dA dn dc) ∧ W.cell? ⟨g + 1, 3, none⟩ = some (.int .i64 kind) ∧ W.cell? ⟨g + 1, 4, none⟩ = some (.int .i64 it) ∧ W.cell? ⟨g + 1, 5, none⟩ = some (.int .i64 is) ∧ W.cell? ⟨g + 1, 6, none⟩ = some (.int .i64 rt) ∧ W.cell? ⟨g + 1, 7, none⟩ = some (.int .i64 rs) ∧ W.cell? ⟨g + 1, 8, none⟩ = some (.string text) ∧ W.cell? ⟨g + 1, 9, none⟩ = some (.slice gA gn gc) ∧ W.cell? ⟨g + 1, 10, none⟩ = some (.int .i64 site) ∧ Hid (JB w g jsite ds dq dA dn dc kind it is rt rs text gA gn gc site W)) : JB w g jsite ds dq dA dn dc kind it is rt rs text gA gn gc site W := h.2.2.2.2.2.2.2.2.2.2.2.2.out
end
/-- Does a join's number stand for a site? -/
def joinB (o : Opr) : Bool := decide (o.gone.length = 0) && (bareB o o.site && (decide (1 ≤ o.site) && decide (o.site ≤ 16)))
set_option maxRecDepth 100000 in
set_option maxHeartbeats 3200000 in
theorem join_any (o : Opr) (dA gA : Option Addr) (dc gc : Nat) (w : World) (hg : o.gone.length ≤ 1000000) : Calls Try.prog 122 #[.agg #[.int .i64 o.site], .agg (o.cells dA dc gA gc)] w (BoolPost w (joinB o)) := by
  obtain ⟨⟨ds, dq⟩, deps, kind, ⟨it, is⟩, ⟨rt, rs⟩, text, gone, site⟩ := o
  obtain ⟨x, hx⟩ : ∃ x, bareB ⟨⟨ds, dq⟩, deps, kind, ⟨it, is⟩, ⟨rt, rs⟩, text, gone, site⟩ site = x := ⟨_, rfl⟩
  have hq := fun W => eql_rest ⟨it, is⟩ ⟨rt, rs⟩ text site noId noId ⟨#[]⟩ site W
  have hx' : sameRest ⟨it, is⟩ ⟨rt, rs⟩ text site noId noId ⟨#[]⟩ site = x := hx
  rw [hx'] at hq
  unfold joinB
  simp only at hg ⊢
  rw [hx]
  unfold restC noId at hq
  unfold Opr.cells
  simp only at hq ⊢
  clear hx hx'
  rcases Nat.eq_zero_or_pos gone.length with h0 | h0
  · obtain rfl := List.eq_nil_of_length_eq_zero h0
    have HR := Lib.hid (show ∀ W, Calls Try.prog 103 #[.agg #[.int .i64 ds, .int .i64 dq, .slice dA deps.length dc, .int .i64 kind, .int .i64 it, .int .i64 is, .int .i64 rt, .int .i64 rs, .string text, .slice gA 0 gc, .int .i64 site]] W (OfPost W (.agg #[.int .i64 it, .int .i64 is, .int .i64 rt, .int .i64 rs, .string text, .int .i64 site])) from fun W => restOf_any ⟨⟨ds, dq⟩, deps, kind, ⟨it, is⟩, ⟨rt, rs⟩, text, [], site⟩ dA gA dc gc W)
    have hz : decide (([] : List Rn).length = 0) = true := rfl
    rw [hz, Bool.true_and]
    clear h0 hz hg
    show Calls Try.prog 122 #[.agg #[.int .i64 site], .agg #[.int .i64 ds, .int .i64 dq, .slice dA deps.length dc, .int .i64 kind, .int .i64 it, .int .i64 is, .int .i64 rt, .int .i64 rs, .string text, .slice gA 0 gc, .int .i64 site]] w _
    have HB1 := Lib.hid ((Box.new w 118 #[.int .i64 site]).alloc (.cells #[.int .i64 ds, .int .i64 dq, .slice dA deps.length dc, .int .i64 kind, .int .i64 it, .int .i64 is, .int .i64 rt, .int .i64 rs, .string text, .slice gA 0 gc, .int .i64 site] 30))
    have HB2 := Lib.hid ((Box.new (w.alloc (.cells #[.int .i64 site] 118)) 30 #[.int .i64 ds, .int .i64 dq, .slice dA deps.length dc, .int .i64 kind, .int .i64 it, .int .i64 is, .int .i64 rt, .int .i64 rs, .string text, .slice gA 0 gc, .int .i64 site]).at_eq (show _ = w.heap.size + 1 by simp))
    have HK := Lib.hid (((Kept.refl (fun _ => False) w).alloc (.cells #[.int .i64 site] 118)).alloc (.cells #[.int .i64 ds, .int .i64 dq, .slice dA deps.length dc, .int .i64 kind, .int .i64 it, .int .i64 is, .int .i64 rt, .int .i64 rs, .string text, .slice gA 0 gc, .int .i64 site] 30))
    obtain ⟨b, hb⟩ : ∃ b, (x && (decide (1 ≤ site) && decide (site ≤ 16))) = b := ⟨_, rfl⟩
    rw [hb]
    have HBB := Lib.hid hb
    clear hb
    have hcase : (x = false ∧ b = false) ∨ (x = true ∧ site < 1 ∧ b = false) ∨ (x = true ∧ 1 ≤ site ∧ 16 < site ∧ b = false) ∨ (x = true ∧ 1 ≤ site ∧ site ≤ 16 ∧ b = true) := by
      have := HBB.out
      cases x with
      | false => exact .inl ⟨rfl, this.symm⟩
      | true =>
        rw [Bool.true_and] at this
        by_cases h1 : 1 ≤ site
        · rw [decide_eq_true h1, Bool.true_and] at this
          by_cases h2 : site ≤ 16
          · exact .inr (.inr (.inr ⟨rfl, h1, h2, by rw [← this, decide_eq_true h2]⟩))
          · exact .inr (.inr (.inl ⟨rfl, h1, by omega, by rw [← this, decide_eq_false h2]⟩))
        · exact .inr (.inl ⟨rfl, by omega, by rw [← this, decide_eq_false h1, Bool.false_and]⟩)
    clear HBB
    have HZ := Lib.hid (show JB w w.heap.size site ds dq dA deps.length dc kind it is rt rs text gA 0 gc site _ from ⟨HB1.out, HB2.out, HK.out⟩)
    clear HB1 HB2 HK
    go_enter Try.func122, Try.ntmps122
    go_wp2_with (fail)
    generalize (w.alloc (.cells #[.int .i64 site] 118)).alloc (.cells #[.int .i64 ds, .int .i64 dq, .slice dA deps.length dc, .int .i64 kind, .int .i64 it, .int .i64 is, .int .i64 rt, .int .i64 rs, .string text, .slice gA 0 gc, .int .i64 site] 30) = w1 at HZ ⊢
    rcases hcase with ⟨rfl, rfl⟩ | ⟨rfl, h1, rfl⟩ | ⟨rfl, h1, h2, rfl⟩ | ⟨rfl, h1, h2, rfl⟩
    · refine wp_region_class (C := fun w' => JB w w.heap.size site ds dq dA deps.length dc kind it is rt rs text gA 0 gc site w') (by kernel_rfl) (by kernel_rfl) HZ.out.drew ?_
      iterate 23
        first | go_big_quiet_skip | (go_big_quiet_want; first | (go_big_quiet_op; go_big_quiet_on) | (apply Exists.intro; refine ⟨fun w' hS => ?_, ?_⟩; (have HJ := hS; obtain ⟨j0, c0, c1, c2, c3, c4, c5, c6, c7, c8, c9, c10, -⟩ := JB.S hS; go_simp; first | rfl | exact ⟨rfl, rfl⟩ | ((with_reducible refine (HR.out _).mono ?_); unfold OfPost; rintro e w2 ⟨rfl, hk⟩; exact ⟨rfl, JB.fresh HJ hk⟩)); (try simp only [Act.put, List.setIfInBounds_toArray, List.set_cons_zero, List.set_cons_succ]); go_big_quiet_on))
      refine wpQuiet_nil ?_
      intro w3 hJ
      have HJ3 := Lib.hid hJ
      clear hJ
      go_wp2
      go_ret
      exact ⟨rfl, HJ3.out.k⟩
    · have d1 : decide (1 ≤ site) = false := decide_eq_false (by omega)
      refine wp_region_class (C := fun w' => JB w w.heap.size site ds dq dA deps.length dc kind it is rt rs text gA 0 gc site w') (by kernel_rfl) (by kernel_rfl) HZ.out.drew ?_
      iterate 23
        first | go_big_quiet_skip | (go_big_quiet_want; first | (go_big_quiet_op; go_big_quiet_on) | (apply Exists.intro; refine ⟨fun w' hS => ?_, ?_⟩; (have HJ := hS; obtain ⟨j0, c0, c1, c2, c3, c4, c5, c6, c7, c8, c9, c10, -⟩ := JB.S hS; go_simp; first | rfl | exact ⟨rfl, rfl⟩ | ((with_reducible refine (HR.out _).mono ?_); unfold OfPost; rintro e w2 ⟨rfl, hk⟩; exact ⟨rfl, JB.fresh HJ hk⟩)); (try simp only [Act.put, List.setIfInBounds_toArray, List.set_cons_zero, List.set_cons_succ]); go_big_quiet_on))
      refine wpQuiet_nil ?_
      intro w3 hJ
      have HJ3 := Lib.hid hJ
      clear hJ
      go_wp2
      go_ret
      exact ⟨rfl, HJ3.out.k⟩
    · have d1 : decide (1 ≤ site) = true := decide_eq_true h1
      have d2 : decide (site ≤ 16) = false := decide_eq_false (by omega)
      refine wp_region_class (C := fun w' => JB w w.heap.size site ds dq dA deps.length dc kind it is rt rs text gA 0 gc site w') (by kernel_rfl) (by kernel_rfl) HZ.out.drew ?_
      iterate 23
        first | go_big_quiet_skip | (go_big_quiet_want; first | (go_big_quiet_op; go_big_quiet_on) | (apply Exists.intro; refine ⟨fun w' hS => ?_, ?_⟩; (have HJ := hS; obtain ⟨j0, c0, c1, c2, c3, c4, c5, c6, c7, c8, c9, c10, -⟩ := JB.S hS; go_simp; first | rfl | exact ⟨rfl, rfl⟩ | ((with_reducible refine (HR.out _).mono ?_); unfold OfPost; rintro e w2 ⟨rfl, hk⟩; exact ⟨rfl, JB.fresh HJ hk⟩)); (try simp only [Act.put, List.setIfInBounds_toArray, List.set_cons_zero, List.set_cons_succ]); go_big_quiet_on))
      refine wpQuiet_nil ?_
      intro w3 hJ
      have HJ3 := Lib.hid hJ
      clear hJ
      go_wp2
      go_ret
      exact ⟨rfl, HJ3.out.k⟩
    · have d1 : decide (1 ≤ site) = true := decide_eq_true h1
      have d2 : decide (site ≤ 16) = true := decide_eq_true h2
      refine wp_region_class (C := fun w' => JB w w.heap.size site ds dq dA deps.length dc kind it is rt rs text gA 0 gc site w') (by kernel_rfl) (by kernel_rfl) HZ.out.drew ?_
      iterate 23
        first | go_big_quiet_skip | (go_big_quiet_want; first | (go_big_quiet_op; go_big_quiet_on) | (apply Exists.intro; refine ⟨fun w' hS => ?_, ?_⟩; (have HJ := hS; obtain ⟨j0, c0, c1, c2, c3, c4, c5, c6, c7, c8, c9, c10, -⟩ := JB.S hS; go_simp; first | rfl | exact ⟨rfl, rfl⟩ | ((with_reducible refine (HR.out _).mono ?_); unfold OfPost; rintro e w2 ⟨rfl, hk⟩; exact ⟨rfl, JB.fresh HJ hk⟩)); (try simp only [Act.put, List.setIfInBounds_toArray, List.set_cons_zero, List.set_cons_succ]); go_big_quiet_on))
      refine wpQuiet_nil ?_
      intro w3 hJ
      have HJ3 := Lib.hid hJ
      clear hJ
      go_wp2
      go_ret
      exact ⟨rfl, HJ3.out.k⟩
  · have hd : decide (gone.length = 0) = false := decide_eq_false (by omega)
    rw [hd, Bool.false_and]
    have HK := Lib.hid (((Kept.refl (fun _ => False) w).alloc (.cells #[.int .i64 site] 118)).alloc (.cells #[.int .i64 ds, .int .i64 dq, .slice dA deps.length dc, .int .i64 kind, .int .i64 it, .int .i64 is, .int .i64 rt, .int .i64 rs, .string text, .slice gA gone.length gc, .int .i64 site] 30))
    have HB2 := Lib.hid ((Box.new (w.alloc (.cells #[.int .i64 site] 118)) 30 #[.int .i64 ds, .int .i64 dq, .slice dA deps.length dc, .int .i64 kind, .int .i64 it, .int .i64 is, .int .i64 rt, .int .i64 rs, .string text, .slice gA gone.length gc, .int .i64 site]).at_eq (show _ = w.heap.size + 1 by simp))
    generalize gone.length = gl at *
    clear hq
    have hne : ((gl : Int) == 0) = false := by simp; omega
    go_enter Try.func122, Try.ntmps122
    go_wp2_with (fail)
    generalize (w.alloc (.cells #[.int .i64 site] 118)).alloc (.cells #[.int .i64 ds, .int .i64 dq, .slice dA deps.length dc, .int .i64 kind, .int .i64 it, .int .i64 is, .int .i64 rt, .int .i64 rs, .string text, .slice gA gl gc, .int .i64 site] 30) = w1 at HB2 HK ⊢
    have c9 : w1.cell? ⟨w.heap.size + 1, 9, none⟩ = some (.slice gA gl gc) := HB2.out.cell 9
    go_quiet (fail)
    go_wp2
    go_ret
    exact ⟨rfl, HK.out.drewN nq⟩
end Go.Proofs.Ytnlklhlnnoihiaa

namespace Go.Proofs.Ytnlklhlnnoihiaa
open Go Go.RowKit

/-- May these runs go? -/
def removeB (o : Opr) : Bool := sameRest o.id o.ref o.text o.site noId noId ⟨#[]⟩ 0 && (decide (0 < o.gone.length) && (decide (o.gone.length ≤ 1024) && decide (chkR [] o.gone = 0)))
set_option maxRecDepth 100000 in
set_option maxHeartbeats 3200000 in
theorem remove_any (o : Opr) (dA gA : Option Addr) (dc gc : Nat) (w : World) (hr : RunsAt w gA o.gone) (hc : ∀ r ∈ o.gone, inI r.count) (hg : o.gone.length ≤ 1000000) :
    Calls Try.prog 112 #[.agg #[.slice gA o.gone.length gc], .agg (o.cells dA dc gA gc)] w (BoolPost w (removeB o)) := by
  obtain ⟨⟨ds, dq⟩, deps, kind, ⟨it, is⟩, ⟨rt, rs⟩, text, gone, site⟩ := o
  simp only at hr hc hg
  have HRU := Lib.hid hr
  have HC := Lib.hid hc
  obtain ⟨x, hx⟩ : ∃ x, sameRest ⟨it, is⟩ ⟨rt, rs⟩ text site noId noId ⟨#[]⟩ 0 = x := ⟨_, rfl⟩
  have hq := fun W => eql_rest ⟨it, is⟩ ⟨rt, rs⟩ text site noId noId ⟨#[]⟩ 0 W
  rw [hx] at hq
  obtain ⟨y, hy⟩ : ∃ y, chkR [] gone = y := ⟨_, rfl⟩
  have HY := Lib.hid hy
  obtain ⟨b, hb⟩ : ∃ b, removeB ⟨⟨ds, dq⟩, deps, kind, ⟨it, is⟩, ⟨rt, rs⟩, text, gone, site⟩ = b := ⟨_, rfl⟩
  rw [hb]
  unfold removeB at hb
  simp only at hb
  rw [hx, hy] at hb
  unfold restC noId at hq
  unfold Opr.cells
  simp only at hq ⊢
  have hcase : (x = false ∧ b = false) ∨ (x = true ∧ gone.length = 0 ∧ b = false) ∨ (x = true ∧ 0 < gone.length ∧ 1024 < gone.length ∧ b = false) ∨ (x = true ∧ 0 < gone.length ∧ gone.length ≤ 1024 ∧ b = decide (y = 0)) := by
    cases x with
    | false => exact .inl ⟨rfl, hb.symm⟩
    | true =>
      rw [Bool.true_and] at hb
      by_cases h1 : 0 < gone.length
      · rw [decide_eq_true h1, Bool.true_and] at hb
        by_cases h2 : gone.length ≤ 1024
        · rw [decide_eq_true h2, Bool.true_and] at hb
          exact .inr (.inr (.inr ⟨rfl, h1, h2, hb.symm⟩))
        · rw [decide_eq_false h2, Bool.false_and] at hb
          exact .inr (.inr (.inl ⟨rfl, h1, by omega, hb.symm⟩))
      · rw [decide_eq_false h1, Bool.false_and] at hb
        exact .inr (.inl ⟨rfl, by omega, hb.symm⟩)
  have HR := Lib.hid (show ∀ W, Calls Try.prog 103 #[.agg #[.int .i64 ds, .int .i64 dq, .slice dA deps.length dc, .int .i64 kind, .int .i64 it, .int .i64 is, .int .i64 rt, .int .i64 rs, .string text, .slice gA gone.length gc, .int .i64 site]] W (OfPost W (.agg #[.int .i64 it, .int .i64 is, .int .i64 rt, .int .i64 rs, .string text, .int .i64 site])) from fun W => restOf_any ⟨⟨ds, dq⟩, deps, kind, ⟨it, is⟩, ⟨rt, rs⟩, text, gone, site⟩ dA gA dc gc W)
  have HS := Lib.hid (show ∀ W, RunsAt W gA gone → Calls Try.prog 113 #[.slice gA gone.length gc] W (IntPost W y) from fun W h => by rw [← hy]; exact SCheck_any gA gone gc W h hc hg)
  have HB1 := Lib.hid ((Box.new w 116 #[.slice gA gone.length gc]).alloc (.cells #[.int .i64 ds, .int .i64 dq, .slice dA deps.length dc, .int .i64 kind, .int .i64 it, .int .i64 is, .int .i64 rt, .int .i64 rs, .string text, .slice gA gone.length gc, .int .i64 site] 30))
  have HK := Lib.hid (((Kept.refl (fun _ => False) w).alloc (.cells #[.slice gA gone.length gc] 116)).alloc (.cells #[.int .i64 ds, .int .i64 dq, .slice dA deps.length dc, .int .i64 kind, .int .i64 it, .int .i64 is, .int .i64 rt, .int .i64 rs, .string text, .slice gA gone.length gc, .int .i64 site] 30))
  clear hx hy hb hr hc
  rcases hcase with ⟨rfl, rfl⟩ | ⟨rfl, h1, rfl⟩ | ⟨rfl, h1, h2, rfl⟩ | ⟨rfl, h1, h2, rfl⟩
  · generalize gone.length = gl at *
    clear HRU HC HY HS
    go_enter Try.func112, Try.ntmps112
    go_wp2_with (fail)
    refine (HR.out _).mono ?_
    unfold OfPost
    rintro e w2 ⟨rfl, hk⟩
    have HK2 := Lib.hid (HK.out.trans hk fun _ _ e => e)
    clear hk
    go_wp2_with (fail)
    go_ret
    exact ⟨rfl, HK2.out⟩
  · have H1 := Lib.hid h1
    have hn0 : decide (0 < gone.length) = false := decide_eq_false (by omega)
    have hle : gone.length ≤ 0 := by omega
    clear HRU HC HY HS h1
    generalize gone.length = gl at *
    go_enter Try.func112, Try.ntmps112
    go_wp2_with (fail)
    refine (HR.out _).mono ?_
    unfold OfPost
    rintro e w2 ⟨rfl, hk⟩
    have c0 : w2.cell? ⟨w.heap.size, 0, none⟩ = some (.slice gA gl gc) := (HB1.out.kept hk id).cell 0
    have HK2 := Lib.hid (HK.out.trans hk fun _ _ e => e)
    clear hk
    go_wp2_with (fail)
    go_ret
    exact ⟨rfl, HK2.out⟩
  · have hn0 : decide (0 < gone.length) = true := decide_eq_true h1
    clear HRU HC HY HS
    generalize gone.length = gl at *
    go_enter Try.func112, Try.ntmps112
    go_wp2_with (fail)
    refine (HR.out _).mono ?_
    unfold OfPost
    rintro e w2 ⟨rfl, hk⟩
    have c0 : w2.cell? ⟨w.heap.size, 0, none⟩ = some (.slice gA gl gc) := (HB1.out.kept hk id).cell 0
    have HK2 := Lib.hid (HK.out.trans hk fun _ _ e => e)
    clear hk
    go_wp2_with (fail)
    go_ret
    exact ⟨rfl, HK2.out⟩
  · have hn0 : decide (0 < gone.length) = true := decide_eq_true h1
    go_enter Try.func112, Try.ntmps112
    go_wp2_with (fail)
    refine (HR.out _).mono ?_
    unfold OfPost
    rintro e w2 ⟨rfl, hk⟩
    have c0 : w2.cell? ⟨w.heap.size, 0, none⟩ = some (.slice gA gone.length gc) := (HB1.out.kept hk id).cell 0
    have HK2 := Lib.hid (HK.out.trans hk fun _ _ e => e)
    clear hk
    go_wp2_with (fail)
    refine (HS.out _ (HRU.out.fresh HK2.out)).mono ?_
    unfold IntPost
    rintro e w3 ⟨rfl, hk⟩
    have HK3 := Lib.hid (HK2.out.trans hk fun _ _ e => e)
    clear hk
    go_wp2_with (fail)
    go_ret
    exact ⟨congrArg Ending.returned (congrArg Value.bool (by (first | rfl | simp))), HK3.out⟩
end Go.Proofs.Ytnlklhlnnoihiaa
