/- The walks of Add. Conditions: the log and the operation lie in memory; nothing is longer than a million. · The walk of Add where the operation is laid at the end. Conditions: the log and the operation lie in memory; nothing is longer than a million. · The walk of Cut. Conditions: the log and the vector lie in memory; nothing is longer than a million. · The walk of Cut where it cuts. Conditions: the log and the vector lie in memory; nothing is longer than a million. -/
import Derived.Test.YtnfehkncfjgeeaaJA
import Derived.Test.YtnfehkncfjgeeaaVAdd
import Derived.Test.YtnfehkncfjgeeaaOCheck
namespace Go.Proofs.Ytnfehkncfjgeeaa
open Go Go.RowKit

theorem Lop.At.opr {w : World} {x : Lop} (h : x.At w) (hs : x.o.Small) : OprAt w x.dA x.gA x.o := ⟨h.d, h.g, hs.counts, hs.dl, hs.gl, hs.tl⟩

set_option maxRecDepth 100000 in
set_option maxHeartbeats 1600000 in
theorem Add_nil (x : Lop) (w : World) : Calls Try.prog 21 #[.pointer none, .agg x.c] w (IntPost w 1) := by
  have HK := Lib.hid ((Kept.refl (fun _ => False) w).alloc (.cells x.c 45))
  obtain ⟨cs, hcs⟩ : ∃ cs, x.c = cs := ⟨_, rfl⟩
  rw [hcs] at HK ⊢
  clear hcs
  go_enter Try.func21, Try.ntmps21
  go_wp2
  go_ret
  exact ⟨rfl, HK.out⟩

/-- Add, ahead of its end. -/
structure AdAt (w : World) (p : Nat) (L : Lg) (g : Nat) (x : Lop) (W : World) : Prop where
  k : Kept (fun _ => False) w W
  l0 : LogAt w p L
  x0 : x.At w
  box : Box W g 45 x.c
  ge : w.heap.size ≤ g
theorem AdAt.fresh {w : World} {p : Nat} {L : Lg} {g : Nat} {x : Lop} {W W' : World} (h : AdAt w p L g x W) (hk : Kept (fun _ => False) W W') : AdAt w p L g x W' := ⟨h.k.trans hk fun _ _ e => e, h.l0, h.x0, h.box.kept hk id, h.ge⟩
theorem AdAt.S {w : World} {p : Nat} {L : Lg} {g : Nat} {x : Lop} {W : World} (h : AdAt w p L g x W) :
    (W.cell? ⟨p, 1, none⟩ = some (.slice L.aA L.all.length L.ac) ∧ W.cell? ⟨p, 2, none⟩ = some (.slice L.oA L.ops.length L.oc)) ∧ W.cell? ⟨g, 0, none⟩ = some (.int .i64 x.o.dot.site) ∧ W.cell? ⟨g, 1, none⟩ = some (.int .i64 x.o.dot.seq) ∧ W.cell? ⟨g, 2, none⟩ = some (.slice x.dA x.o.deps.length x.dc) ∧ W.frozen? ⟨p, 1, none⟩ = false := by
  have hb := (h.l0.fresh h.k).box
  exact ⟨⟨by simpa [Lg.cells] using hb.cell 1, by simpa [Lg.cells] using hb.cell 2⟩, h.box.cell 0, h.box.cell 1, h.box.cell 2, hb.frozen 1⟩
theorem AdAt.drew {w : World} {p : Nat} {L : Lg} {g : Nat} {x : Lop} {W : World} (h : AdAt w p L g x W) : AdAt w p L g x W.drew := ⟨h.k.drew, h.l0, h.x0, h.box, h.ge⟩

set_option maxRecDepth 100000 in
set_option maxHeartbeats 1600000 in
theorem Add_no (p : Nat) (L : Lg) (x : Lop) (w : World) (h : LogAt w p L) (hx : x.At w) (hs : x.o.Small) (ho : okOp x.o = false) :
    Calls Try.prog 21 #[.pointer (some ⟨p, 0, none⟩), .agg x.c] w (IntPost w 10) := by
  have HZ := Lib.hid (show AdAt w p L w.heap.size x (w.alloc (.cells x.c 45)) from ⟨(Kept.refl _ _).alloc _, h, hx, Box.new _ _ _, Nat.le_refl _⟩)
  have HC := Lib.hid (fun W (hW : x.At W) => OpCheck_any x.o x.dA x.gA x.dc x.gc W (hW.opr hs))
  have HXC := Lib.hid (show x.o.cells x.dA x.dc x.gA x.gc = x.c from rfl)
  have HE := Lib.hid (show opE x.o = 10 by unfold opE; rw [ho]; rfl)
  obtain ⟨cs, hcs⟩ : ∃ cs, x.c = cs := ⟨_, rfl⟩
  have HCS := Lib.hid hcs
  have hsz : cs.size = 11 := by rw [← hcs]; rfl
  have HSZ := Lib.hid hsz
  rw [hcs] at HZ HXC ⊢
  clear hcs h hx ho
  go_enter Try.func21, Try.ntmps21
  go_wp2_with (refine wpList_load_op rfl _ rfl w.heap.size rfl _ cs HSZ.out (HCS.out ▸ HZ.out.box) ?_)
  have hcall := HC.out _ (HZ.out.x0.fresh HZ.out.k)
  rw [HXC.out, HE.out] at hcall
  refine hcall.mono ?_
  unfold IntPost
  rintro e w1 ⟨rfl, hk1⟩
  have HZ1 := Lib.hid (HZ.out.fresh hk1)
  clear hk1 HZ hcall
  go_wp2
  go_ret
  exact ⟨rfl, HZ1.out.k⟩
def AdS (p g : Nat) (L : Lg) (x : Lop) (W : World) : Prop := W.cell? ⟨p, 1, none⟩ = some (.slice L.aA L.all.length L.ac) ∧ W.cell? ⟨g, 0, none⟩ = some (.int .i64 x.o.dot.site) ∧ W.cell? ⟨g, 1, none⟩ = some (.int .i64 x.o.dot.seq)
theorem AdAt.toS {w : World} {p : Nat} {L : Lg} {g : Nat} {x : Lop} {W : World} (h : AdAt w p L g x W) :
    (W.cell? ⟨p, 1, none⟩ = some (.slice L.aA L.all.length L.ac) ∧ W.cell? ⟨g, 0, none⟩ = some (.int .i64 x.o.dot.site) ∧ W.cell? ⟨g, 1, none⟩ = some (.int .i64 x.o.dot.seq)) ∧ Hid (AdAt w p L g x W) :=
  ⟨⟨h.S.1.1, h.S.2.1, h.S.2.2.1⟩, h⟩
theorem AdAt.ofS {w : World} {p : Nat} {L : Lg} {g : Nat} {x : Lop} {W : World}
    (h : (W.cell? ⟨p, 1, none⟩ = some (.slice L.aA L.all.length L.ac) ∧ W.cell? ⟨g, 0, none⟩ = some (.int .i64 x.o.dot.site) ∧ W.cell? ⟨g, 1, none⟩ = some (.int .i64 x.o.dot.seq)) ∧ Hid (AdAt w p L g x W)) : AdAt w p L g x W := h.2

set_option maxRecDepth 100000 in
set_option maxHeartbeats 3200000 in
theorem Add_late (p : Nat) (L : Lg) (x : Lop) (w : World) (h : LogAt w p L) (hx : x.At w) (hs : x.o.Small) (ho : okOp x.o = true) (hE : addE L.all x.o.dot ≠ 0) :
    Calls Try.prog 21 #[.pointer (some ⟨p, 0, none⟩), .agg x.c] w (IntPost w 9) := by
  have HZ := Lib.hid (show AdAt w p L w.heap.size x (w.alloc (.cells x.c 45)) from ⟨(Kept.refl _ _).alloc _, h, hx, Box.new _ _ _, Nat.le_refl _⟩)
  have HC := Lib.hid (fun W (hW : x.At W) => OpCheck_any x.o x.dA x.gA x.dc x.gc W (hW.opr hs))
  have HXC := Lib.hid (show x.o.cells x.dA x.dc x.gA x.gc = x.c from rfl)
  have HE := Lib.hid (show opE x.o = 0 by unfold opE; rw [ho]; rfl)
  have HSM := Lib.hid hs
  obtain ⟨cs, hcs⟩ : ∃ cs, x.c = cs := ⟨_, rfl⟩
  have HCS := Lib.hid hcs
  have HSZ := Lib.hid (show cs.size = 11 by rw [← hcs]; rfl)
  have hal := h.al
  have hdl := hs.dl
  have hol := h.ol
  rw [hcs] at HZ HXC ⊢
  obtain ⟨E, hE'⟩ : ∃ E, addE L.all x.o.dot = E := ⟨_, rfl⟩
  have HEE := Lib.hid hE'
  have hE0 : ¬ E = 0 := by rw [← hE']; exact hE
  have hne : (E != 0) = true := bne_iff_ne.mpr hE0
  clear hcs h hx ho hE hE' hs
  go_enter Try.func21, Try.ntmps21
  go_wp2_with (refine wpList_load_op rfl _ rfl w.heap.size rfl _ cs HSZ.out (HCS.out ▸ HZ.out.box) ?_)
  have hcall := HC.out _ (HZ.out.x0.fresh HZ.out.k)
  rw [HXC.out, HE.out] at hcall
  refine hcall.mono ?_
  unfold IntPost
  rintro e w1 ⟨rfl, hk1⟩
  have HZ1 := Lib.hid (HZ.out.fresh hk1)
  clear hk1 HZ hcall HC HXC HE
  obtain ⟨⟨p1, -⟩, g0, g1, -⟩ := HZ1.out.S
  go_wp2_with (fail)
  go_region_held3 (fun W => (W.cell? ⟨p, 1, none⟩ = some (.slice L.aA L.all.length L.ac) ∧ W.cell? ⟨w.heap.size, 0, none⟩ = some (.int .i64 x.o.dot.site) ∧ W.cell? ⟨w.heap.size, 1, none⟩ = some (.int .i64 x.o.dot.seq)) ∧ Hid (AdAt w p L w.heap.size x W))
    (first | exact AdAt.toS (Hid.out (by assumption)) | exact AdAt.toS (AdAt.drew (Hid.out (by assumption))))
    (first
      | (go_at_call 54; (with_reducible refine (Add_any L.aA L.all L.ac x.o.dot _ ?_ (by omega)).mono ?_); (exact DotsAt.of_own (LogAt.a (LogAt.fresh (AdAt.l0 (AdAt.ofS (w := w) (p := p) (L := L) (g := w.heap.size) (x := x) (by assumption))) (AdAt.k (AdAt.ofS (w := w) (p := p) (L := L) (g := w.heap.size) (x := x) (by assumption)))))); unfold AddPost; rw [HEE.out]; rintro r w2 ⟨A2, c2, rfl, ho2, hk2⟩; have HO2 := Lib.hid (own_base ho2 (AdAt.k (AdAt.ofS (w := w) (p := p) (L := L) (g := w.heap.size) (x := x) (by assumption))).size); have HZ2 := Lib.hid (AdAt.fresh (AdAt.ofS (w := w) (p := p) (L := L) (g := w.heap.size) (x := x) (by assumption)) hk2); clear ho2 hk2))
  go_wp2_with (fail)
  refine wp_region_class (C := fun w' => AdAt w p L w.heap.size x w' ∧ w'.ownsRow w.heap.size 28 2 (.slice A2 (addV L.all x.o.dot).length c2) (addV L.all x.o.dot).length (dots (addV L.all x.o.dot))) (by kernel_rfl) (by kernel_rfl) ⟨HZ2.out.drew, HO2.out⟩ ?_
  repeat first | go_big_quiet_skip | (go_big_quiet_want; first | (go_big_quiet_op; go_big_quiet_on) | (apply Exists.intro; refine ⟨fun w' hS => ?_, ?_⟩; (have HJ := hS; obtain ⟨⟨p1, -⟩, g0, g1, g2, -⟩ := AdAt.S hS.1; go_simp; first | rfl | exact ⟨rfl, rfl⟩ | (go_at_call 47; (with_reducible refine (Covers_any L.aA x.dA L.all x.o.deps L.ac x.dc _ (DotsAt.of_own (HJ.1.l0.fresh HJ.1.k).a) (HJ.1.x0.fresh HJ.1.k).d (by omega) (by omega)).mono ?_); unfold BoolPost; rintro e w2 ⟨rfl, hk⟩; exact ⟨rfl, HJ.1.fresh hk, hk.own HJ.2 fun _ _ => id⟩)); (try simp only [Act.put, List.setIfInBounds_toArray, List.set_cons_zero, List.set_cons_succ]); go_big_quiet_on))
  refine wpQuiet_nil ?_
  intro w3 hJ
  have HZ3 := Lib.hid hJ
  clear hJ HZ2 HO2
  go_wp2_with (fail)
  go_ret
  exact ⟨rfl, HZ3.out.1.k⟩
set_option maxRecDepth 100000 in
set_option maxHeartbeats 3200000 in
theorem Add_lacks (p : Nat) (L : Lg) (x : Lop) (w : World) (h : LogAt w p L) (hx : x.At w) (hs : x.o.Small) (ho : okOp x.o = true) (hE : addE L.all x.o.dot = 0) (hcv : coversR (says L.all) (says x.o.deps) = false) :
    Calls Try.prog 21 #[.pointer (some ⟨p, 0, none⟩), .agg x.c] w (IntPost w 9) := by
  have HZ := Lib.hid (show AdAt w p L w.heap.size x (w.alloc (.cells x.c 45)) from ⟨(Kept.refl _ _).alloc _, h, hx, Box.new _ _ _, Nat.le_refl _⟩)
  have HC := Lib.hid (fun W (hW : x.At W) => OpCheck_any x.o x.dA x.gA x.dc x.gc W (hW.opr hs))
  have HXC := Lib.hid (show x.o.cells x.dA x.dc x.gA x.gc = x.c from rfl)
  have HE := Lib.hid (show opE x.o = 0 by unfold opE; rw [ho]; rfl)
  have HSM := Lib.hid hs
  obtain ⟨cs, hcs⟩ : ∃ cs, x.c = cs := ⟨_, rfl⟩
  have HCS := Lib.hid hcs
  have HSZ := Lib.hid (show cs.size = 11 by rw [← hcs]; rfl)
  have hal := h.al
  have hdl := hs.dl
  have hol := h.ol
  rw [hcs] at HZ HXC ⊢
  obtain ⟨E, hE'⟩ : ∃ E, addE L.all x.o.dot = E := ⟨_, rfl⟩
  have HEE := Lib.hid hE'
  obtain rfl : E = 0 := by rw [← hE']; exact hE
  clear hcs h hx ho hE hE' hs
  go_enter Try.func21, Try.ntmps21
  go_wp2_with (refine wpList_load_op rfl _ rfl w.heap.size rfl _ cs HSZ.out (HCS.out ▸ HZ.out.box) ?_)
  have hcall := HC.out _ (HZ.out.x0.fresh HZ.out.k)
  rw [HXC.out, HE.out] at hcall
  refine hcall.mono ?_
  unfold IntPost
  rintro e w1 ⟨rfl, hk1⟩
  have HZ1 := Lib.hid (HZ.out.fresh hk1)
  clear hk1 HZ hcall HC HXC HE
  obtain ⟨⟨p1, -⟩, g0, g1, -⟩ := HZ1.out.S
  go_wp2_with (fail)
  go_region_held3 (fun W => (W.cell? ⟨p, 1, none⟩ = some (.slice L.aA L.all.length L.ac) ∧ W.cell? ⟨w.heap.size, 0, none⟩ = some (.int .i64 x.o.dot.site) ∧ W.cell? ⟨w.heap.size, 1, none⟩ = some (.int .i64 x.o.dot.seq)) ∧ Hid (AdAt w p L w.heap.size x W))
    (first | exact AdAt.toS (Hid.out (by assumption)) | exact AdAt.toS (AdAt.drew (Hid.out (by assumption))))
    (first
      | (go_at_call 54; (with_reducible refine (Add_any L.aA L.all L.ac x.o.dot _ ?_ (by omega)).mono ?_); (exact DotsAt.of_own (LogAt.a (LogAt.fresh (AdAt.l0 (AdAt.ofS (w := w) (p := p) (L := L) (g := w.heap.size) (x := x) (by assumption))) (AdAt.k (AdAt.ofS (w := w) (p := p) (L := L) (g := w.heap.size) (x := x) (by assumption)))))); unfold AddPost; rw [HEE.out]; rintro r w2 ⟨A2, c2, rfl, ho2, hk2⟩; have HO2 := Lib.hid (own_base ho2 (AdAt.k (AdAt.ofS (w := w) (p := p) (L := L) (g := w.heap.size) (x := x) (by assumption))).size); have HZ2 := Lib.hid (AdAt.fresh (AdAt.ofS (w := w) (p := p) (L := L) (g := w.heap.size) (x := x) (by assumption)) hk2); clear ho2 hk2))
  go_wp2_with (fail)
  refine wp_region_class (C := fun w' => AdAt w p L w.heap.size x w' ∧ w'.ownsRow w.heap.size 28 2 (.slice A2 (addV L.all x.o.dot).length c2) (addV L.all x.o.dot).length (dots (addV L.all x.o.dot))) (by kernel_rfl) (by kernel_rfl) ⟨HZ2.out.drew, HO2.out⟩ ?_
  repeat first | go_big_quiet_skip | (go_big_quiet_want; first | (go_big_quiet_op; go_big_quiet_on) | (apply Exists.intro; refine ⟨fun w' hS => ?_, ?_⟩; (have HJ := hS; obtain ⟨⟨p1, -⟩, g0, g1, g2, -⟩ := AdAt.S hS.1; go_simp; first | rfl | exact ⟨rfl, rfl⟩ | (go_at_call 47; (with_reducible refine (Covers_any L.aA x.dA L.all x.o.deps L.ac x.dc _ (DotsAt.of_own (HJ.1.l0.fresh HJ.1.k).a) (HJ.1.x0.fresh HJ.1.k).d (by omega) (by omega)).mono ?_); unfold BoolPost; rw [hcv]; rintro e w2 ⟨rfl, hk⟩; exact ⟨rfl, HJ.1.fresh hk, hk.own HJ.2 fun _ _ => id⟩)); (try simp only [Act.put, List.setIfInBounds_toArray, List.set_cons_zero, List.set_cons_succ]); go_big_quiet_on))
  refine wpQuiet_nil ?_
  intro w3 hJ
  have HZ3 := Lib.hid hJ
  clear hJ HZ2 HO2
  go_wp2_with (fail)
  go_ret
  exact ⟨rfl, HZ3.out.1.k⟩
/-- Add, when it lays the operation at the end. -/
structure Ad9 (w : World) (p : Nat) (L : Lg) (g : Nat) (x : Lop) (A2 : Option Addr) (l2 : List Dt) (c2 : Nat) (W : World) : Prop where
  kp : Kept (fun k => k = p) w W
  l0 : LogAt w p L
  xW : x.At W
  box : Box W g 45 x.c
  bp : Box W p 51 #[.slice L.bA L.base.length L.bc, .slice A2 l2.length c2, .slice L.oA L.ops.length L.oc]
  a2 : W.ownsRow w.heap.size 28 2 (.slice A2 l2.length c2) l2.length (dots l2)
  o : W.ownsRow 0 45 11 (.slice L.oA L.ops.length L.oc) L.ops.length (lops L.ops)
  ge : w.heap.size ≤ g
theorem Box.has {w : World} {g : Nat} {t : TypeId} {cs : Array Value} (h : Box w g t cs) {a : Addr} {v : Value} (ha : a.block = g) (hv : w.cell? a = some v) : ∃ i : Nat, cs[i]? = some v := by
  unfold Box at h
  unfold World.cell? at hv
  rw [ha, h] at hv
  simp only at hv
  split at hv
  · cases hv
  · exact ⟨_, hv⟩
theorem LogAt.no_int {w : World} {p : Nat} {L : Lg} (h : LogAt w p L) {a : Addr} {k : IntKind} {n : Int} (hv : w.cell? a = some (.int k n)) : a.block ≠ p := fun e => by
  obtain ⟨i, hi⟩ := h.box.has e hv
  unfold Lg.cells at hi
  rcases i with _ | _ | _ | i <;> simp at hi
theorem add_block (a : Addr) (k : Nat) : (a.add k).block = a.block := by unfold Addr.add; split <;> rfl
theorem LogAt.not_dots {w : World} {p : Nat} {L : Lg} {A : Option Addr} {l : List Dt} (h : LogAt w p L) (hd : DotsAt w A l) : 0 < l.length → ∀ a, A = some a → a.block ≠ p := by
  rintro h0 a rfl e
  obtain ⟨ad, e1, x0, _⟩ := hd 0 h0
  injection e1 with e1
  subst e1
  exact h.no_int x0 (by rw [add_block]; exact e)
theorem LogAt.not_runs {w : World} {p : Nat} {L : Lg} {A : Option Addr} {l : List Rn} (h : LogAt w p L) (hd : RunsAt w A l) : 0 < l.length → ∀ a, A = some a → a.block ≠ p := by
  rintro h0 a rfl e
  obtain ⟨ad, e1, x0, _⟩ := hd 0 h0
  injection e1 with e1
  subst e1
  exact h.no_int x0 (by rw [add_block]; exact e)
theorem DotsAt.kept' {S : Nat → Prop} {w w' : World} {A : Option Addr} {l : List Dt} (h : DotsAt w A l) (hk : Kept S w w') (hne : 0 < l.length → ∀ a, A = some a → ¬ S a.block) : DotsAt w' A l := by
  rcases Nat.eq_zero_or_pos l.length with h0 | h0
  · obtain rfl := List.eq_nil_of_length_eq_zero h0
    exact DotsAt.nil
  · exact h.kept hk (hne h0)
section
variable {w : World} {p : Nat} {L : Lg} {g : Nat} {x y : Lop} {A2 : Option Addr} {l2 : List Dt} {c2 : Nat} {W W' w6 w8 : World}
theorem Ad9.of (h : AdAt w p L g x W) (ha : W.ownsRow w.heap.size 28 2 (.slice A2 l2.length c2) l2.length (dots l2)) : Ad9 w p L g x A2 l2 c2 (W.setCell ⟨p, 1, none⟩ (.slice A2 l2.length c2)) := by
  have hl := h.l0.fresh h.k
  have hp := hl.box
  have hk : Kept (fun k => k = p) W (W.setCell ⟨p, 1, none⟩ (.slice A2 l2.length c2)) := (Kept.refl _ _).at 1 _ (.inl rfl)
  have hx := h.x0.fresh h.k
  have hpl := h.l0.box.lt
  have hge := h.ge
  refine ⟨(h.k.more fun k _ e => e.elim).trans hk fun k _ e => e, h.l0, ⟨hx.d.kept' hk fun h0 a ha => hl.not_dots hx.d h0 a ha, hx.g.kept hk fun h0 a ha => hl.not_runs hx.g h0 a ha⟩, h.box.kept hk (by omega), hp.set 1 _, hk.own ha fun k hk e => own_box_ne ha hp (by decide) (by rw [hk, e]), hk.own hl.o fun k hk e => own_box_ne hl.o hp (by decide) (by rw [hk, e]), h.ge⟩
theorem Ad9.fresh (h : Ad9 w p L g x A2 l2 c2 W) (hk : Kept (fun _ => False) W W') : Ad9 w p L g x A2 l2 c2 W' :=
  ⟨h.kp.trans hk fun _ _ e => e.elim, h.l0, h.xW.fresh hk, h.box.kept hk id, h.bp.kept hk id, hk.own h.a2 fun _ _ => id, hk.own h.o fun _ _ => id, h.ge⟩
theorem Ad9.drew (h : Ad9 w p L g x A2 l2 c2 W) : Ad9 w p L g x A2 l2 c2 W.drew := h.fresh (Kept.refl _ _).drew
/-- The operation was laid at the end. -/
def AddedPost (w : World) (p : Nat) (L : Lg) (x : Lop) (e : Ending) (w' : World) : Prop := ∃ (L' : Lg) (y : Lop), e = .returned (.int .i64 0) ∧ L'.base = L.base ∧ L'.all = addV L.all x.o.dot ∧ L'.ops = L.ops ++ [y] ∧ y.o = x.o ∧ LogAt w' p L' ∧
  Kept (fun k => k = p ∨ L.oV.ownBlock = some k) w w' ∧ Goes w L.oV L'.oV
/-- And where what is new lies. -/
def AddedPostX (w : World) (p : Nat) (L : Lg) (x : Lop) (e : Ending) (w' : World) : Prop := ∃ (L' : Lg) (y : Lop), e = .returned (.int .i64 0) ∧ L'.base = L.base ∧ L'.all = addV L.all x.o.dot ∧ L'.ops = L.ops ++ [y] ∧ y.o = x.o ∧ LogAt w' p L' ∧
  Kept (fun k => k = p ∨ L.oV.ownBlock = some k) w w' ∧ Goes w L.oV L'.oV ∧ L'.bA = L.bA ∧ L'.bc = L.bc ∧ (∀ k, (Value.slice L'.aA L'.all.length L'.ac).ownBlock = some k → w.heap.size ≤ k) ∧ (∀ k, y.dV.ownBlock = some k → w.heap.size ≤ k) ∧ ∀ k, y.gV.ownBlock = some k → w.heap.size ≤ k
theorem AddedPostX.post {w w' : World} {p : Nat} {L : Lg} {x : Lop} {e : Ending} (h : AddedPostX w p L x e w') : AddedPost w p L x e w' := by
  obtain ⟨L', y, h1, h2, h3, h4, h5, h6, h7, h8, -⟩ := h
  exact ⟨L', y, h1, h2, h3, h4, h5, h6, h7, h8⟩
theorem Ad9.done (h : Ad9 w p L g x A2 (addV L.all x.o.dot) c2 W) (hk : Kept (fun _ => False) W w6) (hy : y.Own w6 W.heap.size) (hyo : y.o = x.o) (hs : x.o.Small) {A' : Option Addr} {c' : Nat}
    (hO : w8.ownsRow 0 45 11 (.slice A' (L.ops.length + 1) c') (L.ops.length + 1) (lops L.ops ++ y.c.toList)) (hK : Kept (fun k => L.oV.ownBlock = some k) w6 w8) (hG : Goes w6 L.oV (.slice A' (L.ops.length + 1) c')) (hl : L.ops.length < 1000000) (h2 : (addV L.all x.o.dot).length ≤ 1000000) :
    AddedPostX w p L x (.returned (.int .i64 0)) (w8.setCell ⟨p, 2, none⟩ (.slice A' (L.ops.length + 1) c')) := by
  have h6 := h.fresh hk
  have hn := own_box_ne h6.o h6.bp (by decide)
  have hd := h6.l0.b
  have hbp := h6.bp.kept hK hn
  have hk9 : Kept (fun k => k = p) w8 (w8.setCell ⟨p, 2, none⟩ (.slice A' (L.ops.length + 1) c')) := (Kept.refl _ _).at 2 _ (.inl rfl)
  have e : (L.ops ++ [y]).length = L.ops.length + 1 := by simp
  have hk69 : Kept (fun k => L.oV.ownBlock = some k ∨ k = p) w6 (w8.setCell ⟨p, 2, none⟩ (.slice A' (L.ops.length + 1) c')) := (hK.more fun k _ e => .inl e).trans hk9 fun k _ e => .inr e
  have hN : ∀ {T : TypeId}, T ≠ 45 → T ≠ 51 → NoKind w6 (fun k => L.oV.ownBlock = some k ∨ k = p) T := fun h1 h2 k hk cs c hc => by
    rcases hk with hk | rfl
    · obtain ⟨cs', c', hc'⟩ := own_is h6.o hk
      rw [hc] at hc'
      injection hc' with e1
      injection e1 with _ e2
      exact h1 e2
    · have hb := h6.bp
      unfold Box at hb
      rw [hc] at hb
      injection hb with e1
      injection e1 with _ e2
      exact h2 e2
  have hk06 : Kept (fun k => k = p) w w6 := h6.kp
  have hN0 : ∀ {T : TypeId}, T ≠ 51 → NoKind w (fun k => k = p) T := fun h1 k hk cs c hc => by
    subst hk
    have hb := h6.l0.box
    unfold Box at hb
    rw [hc] at hb
    injection hb with e1
    injection e1 with _ e2
    exact h1 e2
  have hpl := h6.l0.box.lt
  refine ⟨⟨L.base, addV L.all x.o.dot, L.ops ++ [y], L.bA, L.bc, A2, c2, A', c'⟩, y, rfl, rfl, rfl, rfl, hyo, ⟨?_, ?_, ?_, ?_, fun z hz => ?_, fun z hz => ?_, h.l0.bl, h2, by simp; omega⟩, ?_, ?_, rfl, rfl, fun k hk => (h6.a2.lt k hk).1, fun k hk => Nat.le_trans h.kp.size (hy.d.lt k hk).1, fun k hk => Nat.le_trans h.kp.size (hy.g.lt k hk).1⟩
  · unfold Lg.cells
    simp only [e]
    exact hbp.set 2 _
  · exact hk69.own_kind (hN (by decide) (by decide)) (hk06.own_kind (hN0 (by decide)) h.l0.b)
  · exact own_base (hk69.own_kind (hN (by decide) (by decide)) h6.a2) (Nat.zero_le _)
  · simp only [e, lops_app]
    exact hk9.own hO fun k hk e => own_box_ne hO hbp (by decide) (by rw [hk, e])
  · rcases List.mem_append.1 hz with hz | hz
    · exact ((h.l0.own z hz).kept hk06 (hN0 (by decide)) (hN0 (by decide))).kept hk69 (hN (by decide) (by decide)) (hN (by decide) (by decide))
    · obtain rfl : z = y := by simpa using hz
      exact (hy.mono (Nat.zero_le _)).kept hk69 (hN (by decide) (by decide)) (hN (by decide) (by decide))
  · rcases List.mem_append.1 hz with hz | hz
    · exact h.l0.small z hz
    · obtain rfl : z = y := by simpa using hz
      rw [hyo]; exact hs
  · exact (hk06.more fun k _ e => .inl e).trans hk69 fun k _ e => e.elim .inr .inl
  · unfold Lg.oV
    simp only [e]
    intro k hk
    rcases hG k hk with h1 | h1
    · exact .inl h1
    · exact .inr (Nat.le_trans hk06.size h1)
end
end Go.Proofs.Ytnfehkncfjgeeaa

namespace Go.Proofs.Ytnfehkncfjgeeaa
open Go Go.RowKit

set_option maxRecDepth 100000 in
set_option maxHeartbeats 3200000 in
theorem Add_yes (p : Nat) (L : Lg) (x : Lop) (w : World) (h : LogAt w p L) (hx : x.At w) (hs : x.o.Small) (ho : okOp x.o = true) (hE : addE L.all x.o.dot = 0) (hcv : coversR (says L.all) (says x.o.deps) = true) (hl : L.ops.length < 1000000) (h2 : (addV L.all x.o.dot).length ≤ 1000000) :
    Calls Try.prog 21 #[.pointer (some ⟨p, 0, none⟩), .agg x.c] w (AddedPostX w p L x) := by
  have HZ := Lib.hid (show AdAt w p L w.heap.size x (w.alloc (.cells x.c 45)) from ⟨(Kept.refl _ _).alloc _, h, hx, Box.new _ _ _, Nat.le_refl _⟩)
  have HC := Lib.hid (fun W (hW : x.At W) => OpCheck_any x.o x.dA x.gA x.dc x.gc W (hW.opr hs))
  have HXC := Lib.hid (show x.o.cells x.dA x.dc x.gA x.gc = x.c from rfl)
  have HE := Lib.hid (show opE x.o = 0 by unfold opE; rw [ho]; rfl)
  have HSM := Lib.hid hs
  obtain ⟨cs, hcs⟩ : ∃ cs, x.c = cs := ⟨_, rfl⟩
  have HCS := Lib.hid hcs
  have HSZ := Lib.hid (show cs.size = 11 by rw [← hcs]; rfl)
  have hal := h.al
  have hdl := hs.dl
  have hol := h.ol
  rw [hcs] at HZ HXC ⊢
  obtain ⟨E, hE'⟩ : ∃ E, addE L.all x.o.dot = E := ⟨_, rfl⟩
  have HEE := Lib.hid hE'
  obtain rfl : E = 0 := by rw [← hE']; exact hE
  clear hcs h hx ho hE hE' hs
  go_enter Try.func21, Try.ntmps21
  go_wp2_with (refine wpList_load_op rfl _ rfl w.heap.size rfl _ cs HSZ.out (HCS.out ▸ HZ.out.box) ?_)
  have hcall := HC.out _ (HZ.out.x0.fresh HZ.out.k)
  rw [HXC.out, HE.out] at hcall
  refine hcall.mono ?_
  unfold IntPost
  rintro e w1 ⟨rfl, hk1⟩
  have HZ1 := Lib.hid (HZ.out.fresh hk1)
  clear hk1 HZ hcall HC HXC HE
  obtain ⟨⟨p1, -⟩, g0, g1, -⟩ := HZ1.out.S
  go_wp2_with (fail)
  go_region_held3 (fun W => (W.cell? ⟨p, 1, none⟩ = some (.slice L.aA L.all.length L.ac) ∧ W.cell? ⟨w.heap.size, 0, none⟩ = some (.int .i64 x.o.dot.site) ∧ W.cell? ⟨w.heap.size, 1, none⟩ = some (.int .i64 x.o.dot.seq)) ∧ Hid (AdAt w p L w.heap.size x W))
    (first | exact AdAt.toS (Hid.out (by assumption)) | exact AdAt.toS (AdAt.drew (Hid.out (by assumption))))
    (first
      | (go_at_call 54; (with_reducible refine (Add_any L.aA L.all L.ac x.o.dot _ ?_ (by omega)).mono ?_); (exact DotsAt.of_own (LogAt.a (LogAt.fresh (AdAt.l0 (AdAt.ofS (w := w) (p := p) (L := L) (g := w.heap.size) (x := x) (by assumption))) (AdAt.k (AdAt.ofS (w := w) (p := p) (L := L) (g := w.heap.size) (x := x) (by assumption)))))); unfold AddPost; rw [HEE.out]; rintro r w2 ⟨A2, c2, rfl, ho2, hk2⟩; have HO2 := Lib.hid (own_base ho2 (AdAt.k (AdAt.ofS (w := w) (p := p) (L := L) (g := w.heap.size) (x := x) (by assumption))).size); have HZ2 := Lib.hid (AdAt.fresh (AdAt.ofS (w := w) (p := p) (L := L) (g := w.heap.size) (x := x) (by assumption)) hk2); clear ho2 hk2))
  go_wp2_with (fail)
  refine wp_region_class (C := fun w' => AdAt w p L w.heap.size x w' ∧ w'.ownsRow w.heap.size 28 2 (.slice A2 (addV L.all x.o.dot).length c2) (addV L.all x.o.dot).length (dots (addV L.all x.o.dot))) (by kernel_rfl) (by kernel_rfl) ⟨HZ2.out.drew, HO2.out⟩ ?_
  repeat first | go_big_quiet_skip | (go_big_quiet_want; first | (go_big_quiet_op; go_big_quiet_on) | (apply Exists.intro; refine ⟨fun w' hS => ?_, ?_⟩; (have HJ := hS; obtain ⟨⟨p1, -⟩, g0, g1, g2, -⟩ := AdAt.S hS.1; go_simp; first | rfl | exact ⟨rfl, rfl⟩ | (go_at_call 47; (with_reducible refine (Covers_any L.aA x.dA L.all x.o.deps L.ac x.dc _ (DotsAt.of_own (HJ.1.l0.fresh HJ.1.k).a) (HJ.1.x0.fresh HJ.1.k).d (by omega) (by omega)).mono ?_); unfold BoolPost; rw [hcv]; rintro e w2 ⟨rfl, hk⟩; exact ⟨rfl, HJ.1.fresh hk, hk.own HJ.2 fun _ _ => id⟩)); (try simp only [Act.put, List.setIfInBounds_toArray, List.set_cons_zero, List.set_cons_succ]); go_big_quiet_on))
  refine wpQuiet_nil ?_
  intro w3 hJ
  have HZ3 := Lib.hid hJ
  clear hJ HZ2 HO2
  obtain ⟨⟨p1, -⟩, g0, g1, g2, pf⟩ := HZ3.out.1.S
  go_wp2_with (fail)
  have HZ4 := Lib.hid (Ad9.of HZ3.out.1 HZ3.out.2).drew
  clear p1 g0 g1 g2 pf HZ3
  have HBX := Lib.hid HZ4.out.box
  rw [HCS.out] at HBX
  as_aux_lemma =>
    refine wp_region_held_drew (S := fun W => Box W w.heap.size 45 cs) (by kernel_rfl) HBX.out fun hS => ?_
    generalize World.drew _ = w5 at HZ4 HBX hS ⊢
    have p2 : w5.cell? ⟨p, 2, none⟩ = some (.slice L.oA L.ops.length L.oc) := by simpa using HZ4.out.bp.cell 2
    refine held_take (i := 0) (v := .pointer (some ⟨p, 0, none⟩)) rfl (by kernel_rfl) (by kernel_rfl) (by kernel_rfl) (fun _ _ _ h => h) rfl hS (fun W hW => by go_simp) ?_
    refine held_take (i := 1) (v := .pointer (some ⟨p, 0, none⟩)) rfl (by kernel_rfl) (by kernel_rfl) (by kernel_rfl) (fun _ _ _ h => h) rfl hS (fun W hW => by go_simp) ?_
    refine held_take (i := 2) (v := .pointer (some ⟨p, 0, none⟩)) rfl (by kernel_rfl) (by kernel_rfl) (by kernel_rfl) (fun _ _ _ h => h) rfl hS (fun W hW => by go_simp) ?_
    refine held_take (i := 3) (v := .pointer (some ⟨p, 2, none⟩)) rfl (by kernel_rfl) (by kernel_rfl) (by kernel_rfl) (fun _ _ _ h => h) rfl hS (fun W hW => by go_simp) ?_
    refine held_take (i := 5) (v := .agg cs) rfl (by kernel_rfl) (by kernel_rfl) (by kernel_rfl) (fun _ _ _ h => h) rfl hS (fun W hW => run_load_op _ _ rfl w.heap.size rfl _ cs HSZ.out hW) ?_
    simp only [Act.put, List.setIfInBounds_toArray]
    refine held_two (i := 4) (j := 6) (by kernel_rfl) rfl rfl ?_ ?_
    · intro K hK
      go_wp2_with (fail)
      refine hK.out _ _ (hS) fun _ => ?_
      clear hK K
      refine held_one (i := 6) (by kernel_rfl) rfl fun K hK => ?_
      go_wp2_with (fail)
      have hcl := clone_any x w5 HZ4.out.xW HSM.out
      rw [HCS.out] at hcl
      refine hcl.mono ?_
      rintro e w6 ⟨y, hyo, rfl, hyw, hk6⟩
      have HYO := Lib.hid hyo
      have HYW := Lib.hid hyw
      have HK6 := Lib.hid hk6
      have hS6 := hS.kept hk6 id
      have p26 : w6.cell? ⟨p, 2, none⟩ = some (.slice L.oA L.ops.length L.oc) := by simpa using (HZ4.out.fresh hk6).bp.cell 2
      have p27 : (w6.alloc (.cells y.c 45)).cell? ⟨p, 2, none⟩ = some (.slice L.oA L.ops.length L.oc) := by simpa using ((HZ4.out.fresh hk6).bp.alloc (.cells y.c 45)).cell 2
      obtain ⟨ys, hys⟩ : ∃ ys, y.c = ys := ⟨_, rfl⟩
      have HYS := Lib.hid hys
      rw [hys] at p27 ⊢
      clear hyo hyw hk6 hcl hys p2
      go_wp2_with (fail)
      refine hK.out _ _ (hS6) fun _ => ?_
      clear hK K
      refine held_one (i := 7) (by kernel_rfl) rfl fun K hK => ?_
      refine wpList_one_op rfl _ rfl y ys HYS.out rfl ?_
      refine hK.out _ _ (hS6.alloc _) fun _ => ?_
      clear hK K
      refine held_one (i := 8) (by kernel_rfl) rfl fun K hK => ?_
      refine wpList_append_new eltOps rfl _ _ rfl 0 _ L.ops.length (lops L.ops) rfl (HZ4.out.fresh HK6.out).o 1 1 rfl (by rw [← HYS.out]; rfl) (by rw [← HYS.out]; exact Lop.c_one _) (by omega) (by omega) ?_
      intro A' c' w8 HO8 HK8 HG8
      have HB8 := Lib.hid ((HZ4.out.fresh HK6.out).bp.kept HK8.out (own_box_ne (HZ4.out.fresh HK6.out).o (HZ4.out.fresh HK6.out).bp (by decide)))
      have p8 : w8.cell? ⟨p, 2, none⟩ = some (.slice L.oA L.ops.length L.oc) := by simpa using HB8.out.cell 2
      have pf8 := HB8.out.frozen 2
      have hS8 : Box w8 w.heap.size 45 cs := hS6.kept HK8.out fun hk => by have := ((HZ4.out.l0.o.lt _ hk).2); omega
      refine hK.out _ _ (hS8) fun _ => ?_
      clear hK K
      refine held_one (i := 9) (by kernel_rfl) rfl fun K hK => ?_
      go_wp2_with (fail)
      refine hK.out _ _ (hS8) fun _ => ?_
      clear hK K
      refine held_one (i := 10) (by kernel_rfl) rfl fun K hK => ?_
      go_wp2_with (fail)
      refine hK.out _ _ (hS8) fun _ => ?_
      clear hK K
      refine held_one (i := 11) (by kernel_rfl) rfl fun K hK => ?_
      go_wp2_with (fail)
      refine hK.out _ _ ((hS8.kept ((Kept.refl (fun k => k = p) w8).at 2 _ (.inl rfl)) (by have := HZ4.out.l0.box.lt; omega))) fun _ => ?_
      clear hK K
      refine wpAnyH_done (by kernel_rfl) ?_ _
      have HD := Lib.hid (HZ4.out.done HK6.out HYW.out HYO.out HSM.out (by rw [HYS.out]; exact HO8.out) HK8.out HG8.out hl h2)
      go_wp2_with (fail)
      go_ret
      exact HD.out
    · intro K hK
      go_wp2_with (fail)
      have hcl := clone_any x w5 HZ4.out.xW HSM.out
      rw [HCS.out] at hcl
      refine hcl.mono ?_
      rintro e w6 ⟨y, hyo, rfl, hyw, hk6⟩
      have HYO := Lib.hid hyo
      have HYW := Lib.hid hyw
      have HK6 := Lib.hid hk6
      have hS6 := hS.kept hk6 id
      have p26 : w6.cell? ⟨p, 2, none⟩ = some (.slice L.oA L.ops.length L.oc) := by simpa using (HZ4.out.fresh hk6).bp.cell 2
      have p27 : (w6.alloc (.cells y.c 45)).cell? ⟨p, 2, none⟩ = some (.slice L.oA L.ops.length L.oc) := by simpa using ((HZ4.out.fresh hk6).bp.alloc (.cells y.c 45)).cell 2
      obtain ⟨ys, hys⟩ : ∃ ys, y.c = ys := ⟨_, rfl⟩
      have HYS := Lib.hid hys
      rw [hys] at p27 ⊢
      clear hyo hyw hk6 hcl hys p2
      go_wp2_with (fail)
      refine hK.out _ _ (hS6) fun _ => ?_
      clear hK K
      refine held_two (i := 4) (j := 7) (by kernel_rfl) rfl rfl ?_ ?_
      · intro K hK
        go_wp2_with (fail)
        refine hK.out _ _ (hS6) fun _ => ?_
        clear hK K
        refine held_one (i := 7) (by kernel_rfl) rfl fun K hK => ?_
        refine wpList_one_op rfl _ rfl y ys HYS.out rfl ?_
        refine hK.out _ _ (hS6.alloc _) fun _ => ?_
        clear hK K
        refine held_one (i := 8) (by kernel_rfl) rfl fun K hK => ?_
        refine wpList_append_new eltOps rfl _ _ rfl 0 _ L.ops.length (lops L.ops) rfl (HZ4.out.fresh HK6.out).o 1 1 rfl (by rw [← HYS.out]; rfl) (by rw [← HYS.out]; exact Lop.c_one _) (by omega) (by omega) ?_
        intro A' c' w8 HO8 HK8 HG8
        have HB8 := Lib.hid ((HZ4.out.fresh HK6.out).bp.kept HK8.out (own_box_ne (HZ4.out.fresh HK6.out).o (HZ4.out.fresh HK6.out).bp (by decide)))
        have p8 : w8.cell? ⟨p, 2, none⟩ = some (.slice L.oA L.ops.length L.oc) := by simpa using HB8.out.cell 2
        have pf8 := HB8.out.frozen 2
        have hS8 : Box w8 w.heap.size 45 cs := hS6.kept HK8.out fun hk => by have := ((HZ4.out.l0.o.lt _ hk).2); omega
        refine hK.out _ _ (hS8) fun _ => ?_
        clear hK K
        refine held_one (i := 9) (by kernel_rfl) rfl fun K hK => ?_
        go_wp2_with (fail)
        refine hK.out _ _ (hS8) fun _ => ?_
        clear hK K
        refine held_one (i := 10) (by kernel_rfl) rfl fun K hK => ?_
        go_wp2_with (fail)
        refine hK.out _ _ (hS8) fun _ => ?_
        clear hK K
        refine held_one (i := 11) (by kernel_rfl) rfl fun K hK => ?_
        go_wp2_with (fail)
        refine hK.out _ _ ((hS8.kept ((Kept.refl (fun k => k = p) w8).at 2 _ (.inl rfl)) (by have := HZ4.out.l0.box.lt; omega))) fun _ => ?_
        clear hK K
        refine wpAnyH_done (by kernel_rfl) ?_ _
        have HD := Lib.hid (HZ4.out.done HK6.out HYW.out HYO.out HSM.out (by rw [HYS.out]; exact HO8.out) HK8.out HG8.out hl h2)
        go_wp2_with (fail)
        go_ret
        exact HD.out
      · intro K hK
        refine wpList_one_op rfl _ rfl y ys HYS.out rfl ?_
        refine hK.out _ _ (hS6.alloc _) fun _ => ?_
        clear hK K
        refine held_one (i := 4) (by kernel_rfl) rfl fun K hK => ?_
        go_wp2_with (fail)
        refine hK.out _ _ (hS6.alloc _) fun _ => ?_
        clear hK K
        refine held_one (i := 8) (by kernel_rfl) rfl fun K hK => ?_
        refine wpList_append_new eltOps rfl _ _ rfl 0 _ L.ops.length (lops L.ops) rfl (HZ4.out.fresh HK6.out).o 1 1 rfl (by rw [← HYS.out]; rfl) (by rw [← HYS.out]; exact Lop.c_one _) (by omega) (by omega) ?_
        intro A' c' w8 HO8 HK8 HG8
        have HB8 := Lib.hid ((HZ4.out.fresh HK6.out).bp.kept HK8.out (own_box_ne (HZ4.out.fresh HK6.out).o (HZ4.out.fresh HK6.out).bp (by decide)))
        have p8 : w8.cell? ⟨p, 2, none⟩ = some (.slice L.oA L.ops.length L.oc) := by simpa using HB8.out.cell 2
        have pf8 := HB8.out.frozen 2
        have hS8 : Box w8 w.heap.size 45 cs := hS6.kept HK8.out fun hk => by have := ((HZ4.out.l0.o.lt _ hk).2); omega
        refine hK.out _ _ (hS8) fun _ => ?_
        clear hK K
        refine held_one (i := 9) (by kernel_rfl) rfl fun K hK => ?_
        go_wp2_with (fail)
        refine hK.out _ _ (hS8) fun _ => ?_
        clear hK K
        refine held_one (i := 10) (by kernel_rfl) rfl fun K hK => ?_
        go_wp2_with (fail)
        refine hK.out _ _ (hS8) fun _ => ?_
        clear hK K
        refine held_one (i := 11) (by kernel_rfl) rfl fun K hK => ?_
        go_wp2_with (fail)
        refine hK.out _ _ ((hS8.kept ((Kept.refl (fun k => k = p) w8).at 2 _ (.inl rfl)) (by have := HZ4.out.l0.box.lt; omega))) fun _ => ?_
        clear hK K
        refine wpAnyH_done (by kernel_rfl) ?_ _
        have HD := Lib.hid (HZ4.out.done HK6.out HYW.out HYO.out HSM.out (by rw [HYS.out]; exact HO8.out) HK8.out HG8.out hl h2)
        go_wp2_with (fail)
        go_ret
        exact HD.out

/-- Why an operation is not laid. -/
def addErr (L : Lg) (o : Opr) : Int := if okOp o = false then 10 else if addE L.all o.dot ≠ 0 ∨ coversR (says L.all) (says o.deps) = false then 9 else 0
theorem addV_short (l : List Dt) (d : Dt) : (addV l d).length ≤ 1000000 := by
  unfold addV
  split
  · have := vecTo_len ((says l).set d.site.toNat d.seq) 17
    unfold vec
    omega
  · simp
theorem LogAdd_anyX (p : Nat) (L : Lg) (x : Lop) (w : World) (h : LogAt w p L) (hx : x.At w) (hs : x.o.Small) (hl : L.ops.length < 1000000) :
    Calls Try.prog 21 #[.pointer (some ⟨p, 0, none⟩), .agg x.c] w (fun e w' => if addErr L x.o = 0 then AddedPostX w p L x e w' else IntPost w (addErr L x.o) e w') := by
  unfold addErr
  cases ho : okOp x.o with
  | false => simpa using Add_no p L x w h hx hs ho
  | true =>
    by_cases hE : addE L.all x.o.dot = 0
    · cases hc : coversR (says L.all) (says x.o.deps) with
      | false => simpa [hE] using Add_lacks p L x w h hx hs ho hE hc
      | true => simpa [hE] using Add_yes p L x w h hx hs ho hE hc hl (addV_short _ _)
    · simpa [hE] using Add_late p L x w h hx hs ho hE
theorem LogAdd_any (p : Nat) (L : Lg) (x : Lop) (w : World) (h : LogAt w p L) (hx : x.At w) (hs : x.o.Small) (hl : L.ops.length < 1000000) :
    Calls Try.prog 21 #[.pointer (some ⟨p, 0, none⟩), .agg x.c] w (fun e w' => if addErr L x.o = 0 then AddedPost w p L x e w' else IntPost w (addErr L x.o) e w') :=
  (LogAdd_anyX p L x w h hx hs hl).mono fun e w' he => by
    split
    · rename_i hz
      rw [if_pos hz] at he
      exact he.post
    · rename_i hz
      rw [if_neg hz] at he
      exact he
end Go.Proofs.Ytnfehkncfjgeeaa

namespace Go.Proofs.Ytnfehkncfjgeeaa
open Go Go.RowKit

def Apart (a b : Value) : Prop := ∀ k, a.ownBlock = some k → b.ownBlock ≠ some k
theorem Apart.symm {a b : Value} (h : Apart a b) : Apart b a := fun k hk hk' => h k hk' hk
/-- Operations that each own their lists, no two the same memory. -/
structure OpLanes (w : World) (base : Nat) (ys : List Lop) : Prop where
  own : ∀ y ∈ ys, y.Own w base
  apart : ys.Pairwise fun a b => Apart a.dV b.dV ∧ Apart a.gV b.gV
section
variable {w w' w1 w2 : World} {base : Nat} {ys : List Lop} {y : Lop} {S : Nat → Prop}
theorem OpLanes.nil : OpLanes w base [] := ⟨fun _ h => absurd h (by simp), List.Pairwise.nil⟩
theorem OpLanes.fresh (h : OpLanes w base ys) (hk : Kept (fun _ => False) w w') : OpLanes w' base ys := ⟨fun y hy => (h.own y hy).fresh hk, h.apart⟩
theorem OpLanes.kept (h : OpLanes w base ys) (hk : Kept S w w') (hd : NoKind w S 28) (hg : NoKind w S 87) : OpLanes w' base ys := ⟨fun y hy => (h.own y hy).kept hk hd hg, h.apart⟩
theorem OpLanes.more (h : OpLanes w base ys) (hk : Kept (fun _ => False) w w') (hy : y.Own w' w.heap.size) (hb : base ≤ w.heap.size) : OpLanes w' base (ys ++ [y]) := by
  refine ⟨fun z hz => ?_, ?_⟩
  · rcases List.mem_append.1 hz with hz | hz
    · exact (h.own z hz).fresh hk
    · obtain rfl : z = y := by simpa using hz
      exact hy.mono hb
  · rw [List.pairwise_append]
    refine ⟨h.apart, by simp, fun a ha b hb => ?_⟩
    obtain rfl : b = y := by simpa using hb
    exact ⟨fun k hk hk' => by have := ((h.own a ha).d.lt k hk).2; have := (hy.d.lt k hk').1; omega, fun k hk hk' => by have := ((h.own a ha).g.lt k hk).2; have := (hy.g.lt k hk').1; omega⟩
theorem NoKind.own {b s n : Nat} {e T : TypeId} {v : Value} {xs : List Value} (h : w.ownsRow b e s v n xs) (hne : T ≠ e) : NoKind w (fun k => v.ownBlock = some k) T := fun k hk cs c hc => by
  obtain ⟨cs', c', hc'⟩ := own_is h hk
  rw [hc] at hc'
  injection hc' with e1
  injection e1 with _ e2
  exact hne e2
end

set_option maxRecDepth 100000 in
set_option maxHeartbeats 1600000 in
theorem Cut_nil (H : Option Addr) (hv : List Dt) (hc : Nat) (w : World) : Calls Try.prog 18 #[.pointer none, .slice H hv.length hc] w (fun e w' => e = .returned (.tuple #[.slice none 0 0, .int .i64 1]) ∧ Kept (fun _ => False) w w') := by
  go_enter Try.func18, Try.ntmps18
  go_wp2
  go_ret2
  exact ⟨rfl, Kept.refl _ _⟩

/-- In the middle of Cut. -/
structure CtAt (w : World) (p : Nat) (L : Lg) (H : Option Addr) (hv : List Dt) (k n : Nat) (R gs : List Lop) (A : Option Addr) (c : Nat) (wr : World) : Prop where
  kp : Kept (fun b => L.oV.ownBlock = some b) w wr
  l0 : LogAt w p L
  h0 : DotsAt w H hv
  hH : 0 < hv.length → ∀ a, H = some a → L.oV.ownBlock ≠ some a.block
  row : wr.ownsRow 0 45 11 (.slice L.oA L.ops.length L.oc) L.ops.length (lops R)
  g : wr.ownsRow w.heap.size 45 11 (.slice A gs.length c) gs.length (lops gs)
  lanes : OpLanes wr w.heap.size gs
  drop : R.drop k = L.ops.drop k
  take : R.take n = (L.ops.take k).filter fun x => !hasV hv x.o.dot
  gone : gs.map (·.o) = ((L.ops.take k).filter fun x => hasV hv x.o.dot).map (·.o)
  nk : n ≤ k
  kl : k ≤ L.ops.length
section
variable {w : World} {p : Nat} {L : Lg} {H : Option Addr} {hv : List Dt} {k n : Nat} {R gs : List Lop} {A : Option Addr} {c : Nat} {w1 w2 : World}
theorem CtAt.len (h : CtAt w p L H hv k n R gs A c w1) : R.length = L.ops.length := by
  have := h.row.1
  rw [lops_len] at this
  omega
theorem CtAt.fresh (h : CtAt w p L H hv k n R gs A c w1) (hk : Kept (fun _ => False) w1 w2) : CtAt w p L H hv k n R gs A c w2 :=
  ⟨h.kp.trans hk fun _ _ e => e.elim, h.l0, h.h0, h.hH, hk.own h.row fun _ _ => id, hk.own h.g fun _ _ => id, h.lanes.fresh hk, h.drop, h.take, h.gone, h.nk, h.kl⟩
theorem CtAt.box (h : CtAt w p L H hv k n R gs A c w1) : Box w1 p 51 L.cells := h.l0.box.kept h.kp (own_box_ne h.l0.o h.l0.box (by decide))
theorem CtAt.h (h : CtAt w p L H hv k n R gs A c w1) : DotsAt w1 H hv := h.h0.kept' h.kp h.hH
theorem CtAt.own (h : CtAt w p L H hv k n R gs A c w1) : ∀ x ∈ L.ops, x.Own w1 0 := fun x hx => (h.l0.own x hx).kept h.kp (.own h.l0.o (by decide)) (.own h.l0.o (by decide))
theorem CtAt.get (h : CtAt w p L H hv k n R gs A c w1) (hk : k < L.ops.length) : R[k]'(by rw [h.len]; exact hk) = L.ops[k] := by
  have := congrArg (fun l : List Lop => l[0]?) h.drop
  simp only [List.getElem?_drop, Nat.add_zero] at this
  rw [List.getElem?_eq_getElem (by rw [h.len]; exact hk), List.getElem?_eq_getElem hk] at this
  injection this
/-- An operation stays. -/
theorem CtAt.stay (h : CtAt w p L H hv k n R gs A c w1) (hk : k < L.ops.length) (hh : hasV hv L.ops[k].o.dot = false) (hK : Kept (fun b => L.oV.ownBlock = some b) w1 w2)
    (hr : w2.ownsRow 0 45 11 (.slice L.oA L.ops.length L.oc) L.ops.length (lops (R.set n L.ops[k]))) : CtAt w p L H hv (k + 1) (n + 1) (R.set n L.ops[k]) gs A c w2 := by
  have hnk := h.nk
  have hl := h.len
  refine ⟨h.kp.trans hK fun _ _ e => e, h.l0, h.h0, h.hH, hr, hK.own h.g fun b hb e => ?_, h.lanes.kept hK (.own h.row (by decide)) (.own h.row (by decide)), ?_, ?_, ?_, by omega, by omega⟩
  · have := (h.g.lt b hb).1
    have := (h.l0.o.lt b e).2
    omega
  · rw [List.drop_set_of_lt (by omega)]
    have := congrArg (List.drop 1) h.drop
    simpa [List.drop_drop] using this
  · rw [List.take_succ_eq_append_getElem (by rw [List.length_set]; omega), List.getElem_set_self, filter_take _ _ _ hk, if_pos (by simp [hh]), List.take_set_of_le (Nat.le_refl _), h.take]
  · rw [filter_take _ _ _ hk, if_neg (by simp [hh]), List.append_nil]
    exact h.gone
/-- An operation goes. -/
theorem CtAt.give (h : CtAt w p L H hv k n R gs A c w1) (hk : k < L.ops.length) (hh : hasV hv L.ops[k].o.dot = true) {y : Lop} (hy : y.o = L.ops[k].o) {wc : World} (hc : Kept (fun _ => False) w1 wc) (hyo : y.Own wc w1.heap.size)
    (hK : Kept (fun b => (Value.slice A gs.length c).ownBlock = some b) wc w2) {A' : Option Addr} {c' : Nat}
    (hr : w2.ownsRow w.heap.size 45 11 (.slice A' (gs.length + 1) c') (gs.length + 1) (lops gs ++ y.c.toList)) : CtAt w p L H hv (k + 1) n R (gs ++ [y]) A' c' w2 := by
  have h1 := h.fresh hc
  have hkw : Kept (fun _ => False) w w := Kept.refl _ _
  have e : (gs ++ [y]).length = gs.length + 1 := by simp
  refine ⟨(h1.kp.trans hK fun b hb e => ?_), h.l0, h.h0, h.hH, hK.own h1.row fun b hb e => ?_, by rw [e, lops_app]; exact hr, (h.lanes.more hc hyo h.kp.size).kept hK (.own h1.g (by decide)) (.own h1.g (by decide)), ?_, ?_, ?_, by have := h.nk; omega, by omega⟩
  · have := (h1.g.lt b e).1; omega
  · have := (h1.g.lt b e).1
    have := (h.l0.o.lt b hb).2
    omega
  · have := congrArg (List.drop 1) h.drop
    simpa [List.drop_drop] using this
  · rw [filter_take _ _ _ hk, if_neg (by simp [hh]), List.append_nil]
    exact h.take
  · rw [filter_take _ _ _ hk, if_pos (by simp [hh]), List.map_append, List.map_append, h.gone]
    simp [hy]
end
/-- Cut, behind its loop: the row is cut short. -/
structure CutA (w : World) (p : Nat) (L : Lg) (H : Option Addr) (hv : List Dt) (n : Nat) (gs : List Lop) (A : Option Addr) (c : Nat) (W : World) : Prop where
  kp : Kept (fun k => k = p ∨ L.oV.ownBlock = some k) w W
  l0 : LogAt w p L
  h : DotsAt W H hv
  box : Box W p 51 #[.slice L.bA L.base.length L.bc, .slice L.aA L.all.length L.ac, .slice L.oA n L.oc]
  row : W.ownsRow 0 45 11 (.slice L.oA n L.oc) n (lops (L.ops.filter fun x => !hasV hv x.o.dot))
  b : W.ownsRow 0 28 2 (.slice L.bA L.base.length L.bc) L.base.length (dots L.base)
  a : W.ownsRow 0 28 2 (.slice L.aA L.all.length L.ac) L.all.length (dots L.all)
  own : ∀ x ∈ L.ops, x.Own W 0
  g : W.ownsRow w.heap.size 45 11 (.slice A gs.length c) gs.length (lops gs)
  lanes : OpLanes W w.heap.size gs
  gone : gs.map (·.o) = (L.ops.filter fun x => hasV hv x.o.dot).map (·.o)
  len : n = (L.ops.filter fun x => !hasV hv x.o.dot).length
section
variable {w : World} {p : Nat} {L : Lg} {H : Option Addr} {hv : List Dt} {n : Nat} {R gs : List Lop} {A : Option Addr} {c : Nat} {w1 w2 : World}
theorem CutA.fresh (h : CutA w p L H hv n gs A c w1) (hk : Kept (fun _ => False) w1 w2) : CutA w p L H hv n gs A c w2 :=
  ⟨h.kp.trans hk fun _ _ e => e.elim, h.l0, h.h.fresh hk, h.box.kept hk id, hk.own h.row fun _ _ => id, hk.own h.b fun _ _ => id, hk.own h.a fun _ _ => id, fun x hx => (h.own x hx).fresh hk, hk.own h.g fun _ _ => id, h.lanes.fresh hk, h.gone, h.len⟩
theorem NoKind.box {w : World} {g : Nat} {t T : TypeId} {cs : Array Value} (h : Box w g t cs) (hne : T ≠ t) : NoKind w (fun k => k = g) T := fun k hk cs' c hc => by
  subst hk
  unfold Box at h
  rw [hc] at h
  injection h with e1
  injection e1 with _ e2
  exact hne e2
theorem CtAt.end (h : CtAt w p L H hv L.ops.length n R gs A c w1) (hK : Kept (fun b => L.oV.ownBlock = some b) w1 w2) (hr : w2.ownsRow 0 45 11 (.slice L.oA n L.oc) n (lops (R.take n))) :
    Box w2 p 51 L.cells ∧ CutA w p L H hv n gs A c (w2.setCell ⟨p, 2, none⟩ (.slice L.oA n L.oc)) := by
  have hb2 : Box w2 p 51 L.cells := h.box.kept hK (own_box_ne h.row h.box (by decide))
  have hk3 : Kept (fun k => k = p) w2 (w2.setCell ⟨p, 2, none⟩ (.slice L.oA n L.oc)) := (Kept.refl _ _).at 2 _ (.inl rfl)
  have hs1 : ∀ {T : TypeId}, T ≠ 45 → NoKind w (fun b => L.oV.ownBlock = some b) T := fun h1 => .own h.l0.o h1
  have hs2 : ∀ {T : TypeId}, T ≠ 45 → NoKind w1 (fun b => L.oV.ownBlock = some b) T := fun h1 => .own h.row h1
  have hs3 : ∀ {T : TypeId}, T ≠ 51 → NoKind w2 (fun k => k = p) T := fun h1 => .box hb2 h1
  have htk := h.take
  rw [List.take_length] at htk
  have hgo := h.gone
  rw [List.take_length] at hgo
  have hkw := h.kp.trans hK fun _ _ e => e
  refine ⟨hb2, (hkw.more fun k _ e => .inr e).trans hk3 fun k _ e => .inl e, h.l0, (h.h.kept' hK h.hH).kept' hk3 fun h0 a ha => ?_, hb2.set 2 _, ?_, ?_, ?_, fun x hx => ?_, ?_, ?_, hgo, ?_⟩
  · intro e
    refine (h.l0.not_dots h.h0) h0 a ha e
  · rw [← htk]
    exact hk3.own_kind (hs3 (by decide)) hr
  · exact hk3.own_kind (hs3 (by decide)) (hkw.own_kind (hs1 (by decide)) h.l0.b)
  · exact hk3.own_kind (hs3 (by decide)) (hkw.own_kind (hs1 (by decide)) h.l0.a)
  · exact (((h.l0.own x hx).kept hkw (hs1 (by decide)) (hs1 (by decide)))).kept hk3 (hs3 (by decide)) (hs3 (by decide))
  · refine hk3.own_kind (hs3 (by decide)) (hK.own h.g fun b hb e => ?_)
    have := (h.g.lt b hb).1
    have := (h.l0.o.lt b e).2
    omega
  · exact (h.lanes.kept hK (hs2 (by decide)) (hs2 (by decide))).kept hk3 (hs3 (by decide)) (hs3 (by decide))
  · rw [← htk, List.length_take, h.len]
    have := h.nk
    omega
end
end Go.Proofs.Ytnfehkncfjgeeaa

namespace Go.Proofs.Ytnfehkncfjgeeaa
open Go Go.RowKit

/-- Why nothing is cut. -/
def cutErr (L : Lg) (hv : List Dt) : Int := if checkV hv ≠ 0 then checkV hv else if coversR (says L.all) (says hv) = false then 9 else 0
def RefPost (w : World) (n : Int) (e : Ending) (w' : World) : Prop := e = .returned (.tuple #[.slice none 0 0, .int .i64 n]) ∧ Kept (fun _ => False) w w'
set_option maxRecDepth 100000 in
set_option maxHeartbeats 1600000 in
theorem Cut_no (p : Nat) (L : Lg) (H : Option Addr) (hv : List Dt) (hc : Nat) (w : World) (h : LogAt w p L) (hh : DotsAt w H hv) (hlen : hv.length ≤ 1000000) (hno : cutErr L hv ≠ 0) :
    Calls Try.prog 18 #[.pointer (some ⟨p, 0, none⟩), .slice H hv.length hc] w (RefPost w (cutErr L hv)) := by
  have HL := Lib.hid h
  have HH := Lib.hid hh
  have hal := h.al
  unfold cutErr at hno ⊢
  clear h hh
  by_cases hch : checkV hv = 0
  · rw [if_neg (by simp [hch])] at hno ⊢
    cases hcv : coversR (says L.all) (says hv) with
    | true => rw [hcv] at hno; simp at hno
    | false =>
      have HCH := Lib.hid hch
      have HCV := Lib.hid hcv
      clear hch hcv hno
      go_enter Try.func18, Try.ntmps18
      go_wp2_with (fail)
      refine (Check_any H hv hc _ HH.out (by omega)).mono ?_
      unfold IntPost
      rw [HCH.out]
      rintro e w1 ⟨rfl, hk1⟩
      have HL1 := Lib.hid (HL.out.fresh hk1)
      have HH1 := Lib.hid (HH.out.fresh hk1)
      have HK1 := Lib.hid hk1
      have p1 : w1.cell? ⟨p, 1, none⟩ = some (.slice L.aA L.all.length L.ac) := by simpa [Lg.cells] using HL1.out.box.cell 1
      clear hk1
      go_wp2_with (fail)
      refine (Covers_any L.aA H L.all hv L.ac hc _ (DotsAt.of_own HL1.out.a) HH1.out (by omega) (by omega)).mono ?_
      unfold BoolPost
      rw [HCV.out]
      rintro e w2 ⟨rfl, hk2⟩
      have HK2 := Lib.hid (HK1.out.trans hk2 fun _ _ e => e)
      clear hk2 p1
      go_wp2
      go_ret2
      exact ⟨rfl, HK2.out⟩
  · rw [if_pos hch]
    clear hno
    go_enter Try.func18, Try.ntmps18
    go_wp2_with (fail)
    refine (Check_any H hv hc _ HH.out (by omega)).mono ?_
    unfold IntPost
    rintro e w1 ⟨rfl, hk1⟩
    have HK1 := Lib.hid hk1
    clear hk1
    go_wp2
    go_ret2
    exact ⟨rfl, HK1.out⟩

/-- Cut: what is answered, what is left. -/
def CutPost (w : World) (p : Nat) (L : Lg) (hv : List Dt) (e : Ending) (w' : World) : Prop :=
  ∃ (L' : Lg) (gs : List Lop) (A : Option Addr) (c : Nat), e = .returned (.tuple #[.slice A gs.length c, .int .i64 0]) ∧ gs.map (·.o) = (L.ops.filter fun x => hasV hv x.o.dot).map (·.o) ∧
    w'.ownsRow w.heap.size 45 11 (.slice A gs.length c) gs.length (lops gs) ∧ OpLanes w' w.heap.size gs ∧ LogAt w' p L' ∧ L'.base = vec (maxR (says L.base) (says hv)) ∧ L'.all = L.all ∧
    L'.ops = (L.ops.filter fun x => !hasV hv x.o.dot) ∧ Kept (fun k => k = p ∨ L.oV.ownBlock = some k) w w' ∧ Goes w L.oV L'.oV

/-- And where it lies: what is told ahead of the new base. -/
def CutPostX (w : World) (p : Nat) (L : Lg) (hv : List Dt) (e : Ending) (w' : World) : Prop :=
  ∃ (L' : Lg) (gs : List Lop) (A : Option Addr) (c lim : Nat), e = .returned (.tuple #[.slice A gs.length c, .int .i64 0]) ∧ gs.map (·.o) = (L.ops.filter fun x => hasV hv x.o.dot).map (·.o) ∧
    w'.ownsRow w.heap.size 45 11 (.slice A gs.length c) gs.length (lops gs) ∧ OpLanes w' w.heap.size gs ∧ LogAt w' p L' ∧ L'.base = vec (maxR (says L.base) (says hv)) ∧ L'.all = L.all ∧
    L'.ops = (L.ops.filter fun x => !hasV hv x.o.dot) ∧ Kept (fun k => k = p ∨ L.oV.ownBlock = some k) w w' ∧ Goes w L.oV L'.oV ∧
    (∀ x ∈ gs, (∀ k, x.dV.ownBlock = some k → k < lim) ∧ ∀ k, x.gV.ownBlock = some k → k < lim) ∧ (∀ k, (Value.slice A gs.length c).ownBlock = some k → k < lim) ∧
    (∀ k, (Value.slice L'.bA L'.base.length L'.bc).ownBlock = some k → lim ≤ k) ∧ L'.aA = L.aA ∧ w.heap.size ≤ lim ∧ lim ≤ w'.heap.size ∧ ∀ k, L'.oV.ownBlock = some k → L.oV.ownBlock = some k
theorem CutPostX.post {w w' : World} {p : Nat} {L : Lg} {hv : List Dt} {e : Ending} (h : CutPostX w p L hv e w') : CutPost w p L hv e w' := by
  obtain ⟨L', gs, A, c, lim, h1, h2, h3, h4, h5, h6, h7, h8, h9, h10, -⟩ := h
  exact ⟨L', gs, A, c, h1, h2, h3, h4, h5, h6, h7, h8, h9, h10⟩

theorem CutA.done {w : World} {p : Nat} {L : Lg} {H : Option Addr} {hv : List Dt} {n : Nat} {gs : List Lop} {A : Option Addr} {c : Nat} {w1 w2 : World} (h : CutA w p L H hv n gs A c w1) (hk : Kept (fun _ => False) w1 w2) {B : Option Addr} {bc : Nat} {l : List Dt} (hl : l = vec (maxR (says L.base) (says hv)))
    (hb : w2.ownsRow w1.heap.size 28 2 (.slice B l.length bc) l.length (dots l)) : CutPostX w p L hv (.returned (.tuple #[.slice A gs.length c, .int .i64 0])) (w2.setCell ⟨p, 0, none⟩ (.slice B l.length bc)) := by
  have h2 := h.fresh hk
  have hk3 : Kept (fun k => k = p) w2 (w2.setCell ⟨p, 0, none⟩ (.slice B l.length bc)) := (Kept.refl _ _).at 0 _ (.inl rfl)
  have hs3 : ∀ {T : TypeId}, T ≠ 51 → NoKind w2 (fun k => k = p) T := fun h1 => .box h2.box h1
  have hn := h.len
  refine ⟨⟨l, L.all, L.ops.filter fun x => !hasV hv x.o.dot, B, bc, L.aA, L.ac, L.oA, L.oc⟩, gs, A, c, w1.heap.size, rfl, h.gone, hk3.own_kind (hs3 (by decide)) h2.g, h2.lanes.kept hk3 (hs3 (by decide)) (hs3 (by decide)), ⟨?_, ?_, ?_, ?_, fun x hx => ?_, fun x hx => ?_, ?_, h.l0.al, ?_⟩, hl, rfl, rfl, (h2.kp.trans hk3 fun k _ e => .inl e), fun k hk => .inl ?_, fun x hx => ⟨fun k hk => ((h.lanes.own x hx).d.lt k hk).2, fun k hk => ((h.lanes.own x hx).g.lt k hk).2⟩, fun k hk => (h.g.lt k hk).2, fun k hk => (hb.lt k hk).1, rfl, h.kp.size, Nat.le_trans hk.size hk3.size, fun k hk => ?_⟩
  · unfold Lg.cells
    simp only [← hn]
    exact h2.box.set 0 _
  · exact hk3.own_kind (hs3 (by decide)) (own_base hb (Nat.zero_le _))
  · exact hk3.own_kind (hs3 (by decide)) h2.a
  · simp only [← hn]
    exact hk3.own_kind (hs3 (by decide)) h2.row
  · exact (h2.own x (List.mem_filter.1 hx).1).kept hk3 (hs3 (by decide)) (hs3 (by decide))
  · exact h.l0.small x (List.mem_filter.1 hx).1
  · rw [hl]
    have := vecTo_len (maxR (says L.base) (says hv)) 17
    unfold vec
    simp only
    omega
  · exact Nat.le_trans (List.length_filter_le _ _) h.l0.ol
  · unfold Lg.oV at hk ⊢
    cases hA : L.oA with
    | none => rw [hA] at hk; cases hk
    | some a => rw [hA] at hk; exact hk
  · unfold Lg.oV at hk ⊢
    cases hA : L.oA with
    | none => rw [hA] at hk; cases hk
    | some a => rw [hA] at hk; exact hk
set_option maxRecDepth 100000 in
set_option maxHeartbeats 3200000 in
theorem Cut_yesX (p : Nat) (L : Lg) (H : Option Addr) (hv : List Dt) (hc : Nat) (w : World) (h : LogAt w p L) (hh : DotsAt w H hv) (hlen : hv.length ≤ 1000000) (hH : 0 < hv.length → ∀ a, H = some a → L.oV.ownBlock ≠ some a.block) (hyes : cutErr L hv = 0) :
    Calls Try.prog 18 #[.pointer (some ⟨p, 0, none⟩), .slice H hv.length hc] w (CutPostX w p L hv) := by
  have hch : checkV hv = 0 := by
    unfold cutErr at hyes
    by_cases hch : checkV hv = 0
    · exact hch
    · rw [if_pos hch] at hyes; exact hyes
  have hcv : coversR (says L.all) (says hv) = true := by
    unfold cutErr at hyes
    rw [if_neg (by simp [hch])] at hyes
    cases hcv : coversR (says L.all) (says hv) with
    | true => rfl
    | false => rw [hcv] at hyes; simp at hyes
  have HZ := Lib.hid (show CtAt w p L H hv 0 0 L.ops [] none 0 w from ⟨Kept.refl _ _, h, hh, hH, h.o, World.ownsRow_nil _ _ _ _, OpLanes.nil, rfl, rfl, rfl, Nat.le_refl _, Nat.zero_le _⟩)
  have hal := h.al
  have hol := h.ol
  have hbl := h.bl
  clear h hh hH hyes
  go_enter Try.func18, Try.ntmps18
  go_wp2_with (fail)
  refine (Check_any H hv hc _ HZ.out.h (by omega)).mono ?_
  unfold IntPost
  rw [hch]
  rintro e w1 ⟨rfl, hk1⟩
  have HZ1 := Lib.hid (HZ.out.fresh hk1)
  have p1 : w1.cell? ⟨p, 1, none⟩ = some (.slice L.aA L.all.length L.ac) := by simpa [Lg.cells] using HZ1.out.box.cell 1
  clear hk1 HZ
  go_wp2_with (fail)
  refine (Covers_any L.aA H L.all hv L.ac hc _ (DotsAt.of_own (HZ1.out.kp.own_kind (.own HZ1.out.l0.o (by decide)) HZ1.out.l0.a)) HZ1.out.h (by omega) (by omega)).mono ?_
  unfold BoolPost
  rw [hcv]
  rintro e w2 ⟨rfl, hk2⟩
  have HZ2 := Lib.hid (HZ1.out.fresh hk2)
  have p2 : w2.cell? ⟨p, 2, none⟩ = some (.slice L.oA L.ops.length L.oc) := by simpa [Lg.cells] using HZ2.out.box.cell 2
  clear hk2 HZ1 p1 hch hcv
  go_wp2_with (fail)
  clear p2
  go_loopw [7, 8, 30] (fun Gv nv i wr => ∃ (k n : Nat) (R gs : List Lop) (A : Option Addr) (c : Nat), Gv = .slice A gs.length c ∧ nv = .int .i64 n ∧ i = .int .i64 k ∧ CtAt w p L H hv k n R gs A c wr) (fun _ _ i _ => L.ops.length - (intOf i).toNat)
  case atStart => exact ⟨0, 0, L.ops, [], none, 0, rfl, rfl, rfl, HZ2.out⟩
  case round =>
    obtain ⟨k, n, R, gs, A, c, rfl, rfl, rfl, hz⟩ := hrel
    have HZ3 := Lib.hid hz
    clear HZ2
    have hk := hz.kl
    have hnk := hz.nk
    by_cases hlt : k < L.ops.length
    · obtain ⟨gr, cap, hv', hm1⟩ := World.ownsRow.form hz.l0.o (by omega)
      injection hv' with e1 _ e3
      have hoA := e1
      have HOA := Lib.hid hoA
      have HRL := Lib.hid hz.len
      have HR := Lib.hid hz.row
      rw [e1] at HR ⊢
      have hget := hz.get hlt
      obtain ⟨x, hx⟩ : ∃ x, L.ops[k] = x := ⟨_, rfl⟩
      have HX := Lib.hid hx
      have HXM := Lib.hid (show x ∈ L.ops by rw [← hx]; exact List.getElem_mem hlt)
      obtain ⟨cs, hcs⟩ : ∃ cs, x.c = cs := ⟨_, rfl⟩
      have hkR : k < R.length := by rw [hz.len]; exact hlt
      have HXC := Lib.hid (show R[k].c = cs by rw [hget, hx, hcs])
      have HCS := Lib.hid hcs
      have HSZ := Lib.hid (show cs.size = 11 by rw [← hcs]; rfl)
      have HO := Lib.hid (show cs.all (·.oneCell') = true by rw [← hcs]; exact Opr.cells_one ..)
      have HC0 := Lib.hid (show cs[0]? = some (.int .i64 x.o.dot.site) by rw [← hcs]; rfl)
      have HC1 := Lib.hid (show cs[1]? = some (.int .i64 x.o.dot.seq) by rw [← hcs]; rfl)
      have HN := Lib.hid (Box.new wr 45 opZ)
      have HK0 := Lib.hid ((Kept.refl (fun _ => False) wr).alloc (.cells opZ 45))
      have HNN := Lib.hid hz.kp.size
      clear hz hx hcs e1 e3 hget hm1 hoA
      go_wp2_with (first | refine wpList_load_lop rfl _ rfl gr k rfl R HR.out hkR cs HXC.out ?_ | (refine wpList_store_box rfl 45 _ _ rfl wr.heap.size cs rfl rfl 45 opZ HN.out (size_op.trans (by rw [HSZ.out])) HSZ.out.symm HO.out ?_; intro w4 HB4 hk4; have HK4 := Lib.hid hk4; clear hk4; have d0 := (HB4.out.cell 0).trans HC0.out; have d1 := (HB4.out.cell 1).trans HC1.out))
      have HKK := Lib.hid (HK0.out.trans HK4.out fun k hk e => by omega)
      have HZ4 := Lib.hid (HZ3.out.fresh HKK.out)
      clear d0 d1 HN HK0 HK4 HKK HZ3 HR HXC HC0 HC1 HO
      generalize wr.heap.size = N at HB4 HNN ⊢
      refine (Has_any H hv hc x.o.dot _ HZ4.out.h (by omega)).mono ?_
      unfold BoolPost
      rintro e w5 ⟨rfl, hk5⟩
      have HZ5 := Lib.hid (HZ4.out.fresh hk5)
      have HB5 := Lib.hid (HB4.out.kept hk5 id)
      clear hk5 HB4 HZ4
      cases hhas : hasV hv x.o.dot with
      | true =>
        have HE := Lib.hid (show hasV hv L.ops[k].o.dot = true by rw [HX.out]; exact hhas)
        clear hhas
        go_wp2_with (refine wpList_load_op rfl _ rfl N rfl _ cs HSZ.out HB5.out ?_)
        have hcl := clone_any x w5 (HZ5.out.own x HXM.out).at (HZ5.out.l0.small x HXM.out)
        rw [HCS.out] at hcl
        refine hcl.mono ?_
        rintro e w6 ⟨y, hyo, rfl, hyw, hk6⟩
        have HYO := Lib.hid (show y.o = L.ops[k].o by rw [HX.out]; exact hyo)
        have HYW := Lib.hid hyw
        have HK6 := Lib.hid hk6
        have hgl : gs.length ≤ 1000000 := by
          have := congrArg List.length HZ5.out.gone
          simp only [List.length_map] at this
          rw [this]
          exact Nat.le_trans (List.length_filter_le _ _) (by rw [List.length_take]; omega)
        obtain ⟨ys, hys⟩ : ∃ ys, y.c = ys := ⟨_, rfl⟩
        have HYS := Lib.hid hys
        rw [hys]
        clear hyo hyw hk6 hcl hys
        go_wp2_with (first | refine wpList_one_op rfl _ rfl y ys HYS.out rfl ?_ | (at_builtin; refine Hid.out ?_))
        refine Lib.hid ?_
        refine wpList_append_new eltOps rfl _ _ rfl w.heap.size _ gs.length (lops gs) rfl (HZ5.out.fresh HK6.out).g 1 1 rfl (by rw [← HYS.out]; rfl) (by rw [← HYS.out]; exact Lop.c_one _) (by omega) (HZ5.out.fresh HK6.out).kp.size ?_
        intro A' c' w8 HO8 HK8 HG8
        have HZ8 := Lib.hid (HZ5.out.give hlt HE.out HYO.out HK6.out HYW.out HK8.out (by rw [HYS.out]; exact HO8.out))
        clear HO8 HK8 HG8 HK6 HYW HYO
        go_wp2
        go_roundw
        case rel => exact ⟨k + 1, n, R, gs ++ [y], A', c', by simp, rfl, by go_num, HZ8.out⟩
        case measure => simp [intOf]; omega
      | false =>
        have HE := Lib.hid (show hasV hv L.ops[k].o.dot = false by rw [HX.out]; exact hhas)
        clear hhas
        have hPB := HZ5.out.box.cell 2
        have hS5 : Box w5.drew N 45 cs ∧ w5.drew.cell? ⟨p, 2, none⟩ = some (.slice (some ⟨gr, 0, none⟩) L.ops.length L.oc) := ⟨HB5.out.drew, by rw [← HOA.out]; simpa [Lg.cells] using hPB⟩
        have HS5 := Lib.hid hS5
        have hoc := own_cap HZ5.out.l0.o
        have hcn : ¬ L.oc = n := by omega
        have hn0 : (0 : Int) ≤ (n : Int) := by omega
        have hnm : (n : Int) ≤ (L.ops.length : Int) := by omega
        have hwr : IntKind.i64.wrap ((n : Int) + 1) = (n : Int) + 1 := IntWalk.i64_in _ ⟨by omega, by omega⟩
        clear hPB hS5
        go_wp2_with (fail)
        have HZ6 := Lib.hid (HZ5.out.fresh (Kept.refl _ _).drew)
        clear HZ5 HB5
        as_aux_lemma =>
          refine wp_region_held_drew (S := fun W => Box W N 45 cs ∧ W.cell? ⟨p, 2, none⟩ = some (.slice (some ⟨gr, 0, none⟩) L.ops.length L.oc)) (by kernel_rfl) HS5.out fun hS => ?_
          generalize World.drew _ = w6 at HZ6 HS5 hS ⊢
          refine held_takeTo 43 (i := 0) (v := .int .i64 n) rfl rfl (by kernel_rfl) (by kernel_rfl) (by kernel_rfl) (fun _ _ _ h => h) rfl hS (fun W hW => by go_simp) ?_
          simp only [List.setIfInBounds_toArray, List.set_cons_zero, List.set_cons_succ]
          refine held_takeTo 44 (i := 1) (v := .pointer (some ⟨p, 0, none⟩)) rfl rfl (by kernel_rfl) (by kernel_rfl) (by kernel_rfl) (fun _ _ _ h => h) rfl hS (fun W hW => by go_simp) ?_
          simp only [List.setIfInBounds_toArray, List.set_cons_zero, List.set_cons_succ]
          refine held_takeTo 45 (i := 2) (v := .pointer (some ⟨p, 0, none⟩)) rfl rfl (by kernel_rfl) (by kernel_rfl) (by kernel_rfl) (fun _ _ _ h => h) rfl hS (fun W hW => by go_simp) ?_
          simp only [List.setIfInBounds_toArray, List.set_cons_zero, List.set_cons_succ]
          refine held_takeTo 46 (i := 3) (v := .pointer (some ⟨p, 2, none⟩)) rfl rfl (by kernel_rfl) (by kernel_rfl) (by kernel_rfl) (fun _ _ _ h => h) rfl hS (fun W hW => by go_simp) ?_
          simp only [List.setIfInBounds_toArray, List.set_cons_zero, List.set_cons_succ]
          refine held_takeTo 47 (i := 4) (v := .slice (some ⟨gr, 0, none⟩) L.ops.length L.oc) rfl rfl (by kernel_rfl) (by kernel_rfl) (by kernel_rfl) (fun _ _ _ h => h) rfl hS (fun W hW => by (have h2 := hW.2; go_simp)) ?_
          simp only [List.setIfInBounds_toArray, List.set_cons_zero, List.set_cons_succ]
          refine held_takeTo 48 (i := 5) (v := .int .i64 n) rfl rfl (by kernel_rfl) (by kernel_rfl) (by kernel_rfl) (fun _ _ _ h => h) rfl hS (fun W hW => by go_simp) ?_
          simp only [List.setIfInBounds_toArray, List.set_cons_zero, List.set_cons_succ]
          refine held_takeTo 49 (i := 6) (v := .slice (some ⟨gr, n * 11, none⟩) (L.ops.length - n) (L.oc - n)) rfl rfl (by kernel_rfl) (by kernel_rfl) (by kernel_rfl) (fun _ _ _ h => h) rfl hS (fun W hW => by go_simp) ?_
          simp only [List.setIfInBounds_toArray, List.set_cons_zero, List.set_cons_succ]
          refine held_takeTo 50 (i := 7) (v := .agg cs) rfl rfl (by kernel_rfl) (by kernel_rfl) (by kernel_rfl) (fun _ _ _ h => h) rfl hS (fun W hW => run_load_op _ _ rfl N rfl _ cs HSZ.out hW.1) ?_
          simp only [List.setIfInBounds_toArray, List.set_cons_zero, List.set_cons_succ]
          refine held_one (i := 8) (by kernel_rfl) rfl fun K hK => ?_
          refine wpList_one_op rfl _ rfl x cs HCS.out rfl ?_
          refine hK.out _ _ ⟨hS.1.alloc _, Lib.cell?_alloc_some _ hS.2⟩ fun _ => ?_
          clear hK K
          have HSB := Lib.hid (Box.new w6 45 cs)
          have HZ7 := Lib.hid (HZ6.out.fresh ((Kept.refl _ _).alloc (.cells cs 45)))
          refine held_one (i := 9) (by kernel_rfl) rfl fun K hK => ?_
          refine wpList_copy_lop rfl _ _ rfl (n := n) R (by have := HZ7.out.row; rw [HOA.out] at this; exact this) (by omega) rfl (by omega) x rfl (by rw [HCS.out]; exact HSB.out) fun w8 HR8 HK8 => ?_
          have HP8 := Lib.hid (HZ7.out.box.kept HK8.out (fun e => by have := own_box_ne HZ7.out.l0.o HZ7.out.l0.box (by decide); exact this (by rw [HOA.out, e]; rfl)))
          have hS8 : Box w8 N 45 cs ∧ w8.cell? ⟨p, 2, none⟩ = some (.slice (some ⟨gr, 0, none⟩) L.ops.length L.oc) := ⟨(hS.1.alloc _).kept HK8.out (fun e => by have := (HZ7.out.l0.o.lt gr (by rw [HOA.out]; rfl)).2; have := HNN.out; omega), by rw [← HOA.out]; simpa [Lg.cells] using HP8.out.cell 2⟩
          refine hK.out _ _ hS8 fun _ => ?_
          clear hK K
          have HZ8 := Lib.hid (HZ7.out.stay hlt HE.out (HK8.out.more fun b _ e => by rw [e, Lg.oV, HOA.out]; rfl) (by rw [HX.out, HOA.out]; exact HR8.out))
          refine held_one (i := 10) (by kernel_rfl) rfl fun K hK => ?_
          go_wp2_with (fail)
          refine hK.out _ _ hS8 fun _ => ?_
          clear hK K
          refine held_one (i := 11) (by kernel_rfl) rfl fun K hK => ?_
          go_wp2_with (fail)
          refine hK.out _ _ hS8 fun _ => ?_
          clear hK K
          refine wpAnyH_done (by kernel_rfl) ?_ _
          go_wp2_with (fail)
          go_roundw
          case rel => exact ⟨k + 1, n + 1, _, gs, A, c, rfl, by simp, by go_num, HZ8.out⟩
          case measure => simp [intOf]; omega
    · obtain rfl : k = L.ops.length := by omega
      have hb2 : wr.cell? ⟨p, 2, none⟩ = some (.slice L.oA L.ops.length L.oc) := by simpa [Lg.cells] using hz.box.cell 2
      have hoc := own_cap hz.l0.o
      have hform : (L.oA = none ∧ L.oc = 0 ∧ n = 0) ∨ (∃ g, L.oA = some ⟨g, 0, none⟩ ∧ L.oc = n) ∨ (∃ g, L.oA = some ⟨g, 0, none⟩ ∧ ¬ L.oc = n) := by
        rcases hz.l0.o.2 with ⟨h', h0⟩ | ⟨g, cap, cur, hA, _⟩
        · injection h' with h1 _ h3
          exact .inl ⟨h1, h3, by omega⟩
        · injection hA with h1
          by_cases hcn : L.oc = n
          · exact .inr (.inl ⟨g, h1, hcn⟩)
          · exact .inr (.inr ⟨g, h1, hcn⟩)
      have hn0 : (0 : Int) ≤ (n : Int) := by omega
      have hnm : (n : Int) ≤ (L.ops.length : Int) := by omega
      have hnc : (n : Int) ≤ (L.oc : Int) := by omega
      clear hz
      have HE := Lib.hid (fun w8 h8 h9 => HZ3.out.end (w2 := w8) h8 h9)
      have HR3 := Lib.hid HZ3.out.row
      clear HZ3 hlt hk
      unfold Lg.oV Lg.cells at HE
      rcases hform with ⟨hA, hc0, rfl⟩ | ⟨g, hA, hcn⟩ | ⟨g, hA, hcn⟩
      · rw [hA, hc0] at HE HR3 hb2
        rw [hc0] at hoc hnc
        clear hA
        go_wp2_with (refine wpList_clear_lop rfl _ rfl (n := 0) R HR3.out (by omega) rfl (by omega) (fun h => by first | rfl | omega | exact if_neg (by omega) | (simp only [Option.map_some, add_none])) fun w8 HR8 HK8 => Hid.out ?_)
        refine Lib.hid ?_
        obtain ⟨hb8, hca⟩ := HE.out w8 HK8.out HR8.out
        have p8 : w8.cell? ⟨p, 2, none⟩ = some (.slice none L.ops.length 0) := by simpa using hb8.cell 2
        have p80 : w8.cell? ⟨p, 0, none⟩ = some (.slice L.bA L.base.length L.bc) := by simpa using hb8.cell 0
        have f8 := hb8.frozen 2
        have HCA := Lib.hid hca
        clear hb8 hca HE HR3 HR8 HK8
        go_wp2_with (fail)
        generalize w8.setCell ⟨p, 2, none⟩ (.slice none 0 0) = w9 at HCA ⊢
        obtain ⟨l, hl⟩ : ∃ l, vec (maxR (says L.base) (says hv)) = l := ⟨_, rfl⟩
        have hme := Merge_any L.bA H L.base hv L.bc hc w9 (DotsAt.of_own HCA.out.b) HCA.out.h (by omega) (by omega)
        rw [hl] at hme
        have HLL := Lib.hid hl.symm
        refine hme.mono ?_
        rintro e w10 ⟨B, bc, rfl, ho, hk⟩
        have HD := Lib.hid (HCA.out.done hk HLL.out ho)
        have b0 : w10.cell? ⟨p, 0, none⟩ = some (.slice L.bA L.base.length L.bc) := by simpa using (HCA.out.fresh hk).box.cell 0
        have b0f := (HCA.out.fresh hk).box.frozen 0
        clear hme hl ho hk HCA
        go_wp2_with (fail)
        go_ret2
        exact HD.out
      · rw [hA, hcn] at HE HR3 hb2
        rw [hcn] at hoc hnc
        clear hA hcn
        go_wp2_with (refine wpList_clear_lop rfl _ rfl (n := n) R HR3.out (by omega) rfl (by omega) (fun h => by first | rfl | omega | exact if_neg (by omega) | (simp only [Option.map_some, add_none])) fun w8 HR8 HK8 => Hid.out ?_)
        refine Lib.hid ?_
        obtain ⟨hb8, hca⟩ := HE.out w8 HK8.out HR8.out
        have p8 : w8.cell? ⟨p, 2, none⟩ = some (.slice (some ⟨g, 0, none⟩) L.ops.length n) := by simpa using hb8.cell 2
        have p80 : w8.cell? ⟨p, 0, none⟩ = some (.slice L.bA L.base.length L.bc) := by simpa using hb8.cell 0
        have f8 := hb8.frozen 2
        have HCA := Lib.hid hca
        clear hb8 hca HE HR3 HR8 HK8
        go_wp2_with (fail)
        generalize w8.setCell ⟨p, 2, none⟩ (.slice (some ⟨g, 0, none⟩) n n) = w9 at HCA ⊢
        obtain ⟨l, hl⟩ : ∃ l, vec (maxR (says L.base) (says hv)) = l := ⟨_, rfl⟩
        have hme := Merge_any L.bA H L.base hv L.bc hc w9 (DotsAt.of_own HCA.out.b) HCA.out.h (by omega) (by omega)
        rw [hl] at hme
        have HLL := Lib.hid hl.symm
        refine hme.mono ?_
        rintro e w10 ⟨B, bc, rfl, ho, hk⟩
        have HD := Lib.hid (HCA.out.done hk HLL.out ho)
        have b0 : w10.cell? ⟨p, 0, none⟩ = some (.slice L.bA L.base.length L.bc) := by simpa using (HCA.out.fresh hk).box.cell 0
        have b0f := (HCA.out.fresh hk).box.frozen 0
        clear hme hl ho hk HCA
        go_wp2_with (fail)
        go_ret2
        exact HD.out
      · rw [hA] at HE HR3 hb2
        clear hA
        generalize L.oc = q at *
        go_wp2_with (refine wpList_clear_lop rfl _ rfl (n := n) R HR3.out (by omega) rfl (by omega) (fun h => by first | rfl | omega | exact if_neg (by omega) | (simp only [Option.map_some, add_none])) fun w8 HR8 HK8 => Hid.out ?_)
        refine Lib.hid ?_
        obtain ⟨hb8, hca⟩ := HE.out w8 HK8.out HR8.out
        have p8 : w8.cell? ⟨p, 2, none⟩ = some (.slice (some ⟨g, 0, none⟩) L.ops.length q) := by simpa using hb8.cell 2
        have p80 : w8.cell? ⟨p, 0, none⟩ = some (.slice L.bA L.base.length L.bc) := by simpa using hb8.cell 0
        have f8 := hb8.frozen 2
        have HCA := Lib.hid hca
        clear hb8 hca HE HR3 HR8 HK8
        go_wp2_with (fail)
        generalize w8.setCell ⟨p, 2, none⟩ (.slice (some ⟨g, 0, none⟩) n q) = w9 at HCA ⊢
        obtain ⟨l, hl⟩ : ∃ l, vec (maxR (says L.base) (says hv)) = l := ⟨_, rfl⟩
        have hme := Merge_any L.bA H L.base hv L.bc hc w9 (DotsAt.of_own HCA.out.b) HCA.out.h (by omega) (by omega)
        rw [hl] at hme
        have HLL := Lib.hid hl.symm
        refine hme.mono ?_
        rintro e w10 ⟨B, bc, rfl, ho, hk⟩
        have HD := Lib.hid (HCA.out.done hk HLL.out ho)
        have b0 : w10.cell? ⟨p, 0, none⟩ = some (.slice L.bA L.base.length L.bc) := by simpa using (HCA.out.fresh hk).box.cell 0
        have b0f := (HCA.out.fresh hk).box.frozen 0
        clear hme hl ho hk HCA
        go_wp2_with (fail)
        go_ret2
        exact HD.out
theorem Cut_yes (p : Nat) (L : Lg) (H : Option Addr) (hv : List Dt) (hc : Nat) (w : World) (h : LogAt w p L) (hh : DotsAt w H hv) (hlen : hv.length ≤ 1000000) (hH : 0 < hv.length → ∀ a, H = some a → L.oV.ownBlock ≠ some a.block) (hyes : cutErr L hv = 0) :
    Calls Try.prog 18 #[.pointer (some ⟨p, 0, none⟩), .slice H hv.length hc] w (CutPost w p L hv) :=
  (Cut_yesX p L H hv hc w h hh hlen hH hyes).mono fun _ _ h => h.post
end Go.Proofs.Ytnfehkncfjgeeaa
