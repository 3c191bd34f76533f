/- The walk of the law's known: what the document fixes. No condition. · The walk of LogNothing: it returns true, whatever the operation and the vector. No condition. -/
import Derived.Test.YtnfehkncfjgeeaaJD
import Derived.Test.YtnfehkncfjgeeaaJB
import Derived.Test.YtnfehkncfjgeeaaJC
namespace Go.Proofs.Ytnfehkncfjgeeaa
open Go Go.RowKit

theorem dots_new1 (w : World) (a b : Int) (T : TypeId) : DotsAt (w.alloc (.cells #[.int .i64 a, .int .i64 b] T)) (some ⟨w.heap.size, 0, none⟩) [⟨a, b⟩] := fun k hk => by
  obtain rfl : k = 0 := by simp at hk; omega
  exact ⟨_, rfl, (Box.new w T #[.int .i64 a, .int .i64 b]).cell 0, (Box.new w T #[.int .i64 a, .int .i64 b]).cell 1⟩
/-- A log that was made since w, in memory that is not older. -/
structure LogOf (w : World) (p : Nat) (L : Lg) (W : World) : Prop where
  l : LogAt W p L
  k : Kept (fun _ => False) w W
  ge : w.heap.size ≤ p
  ov : ∀ k, L.oV.ownBlock = some k → w.heap.size ≤ k
section
variable {w W W' : World} {p : Nat} {L L' : Lg}
theorem LogOf.fresh (h : LogOf w p L W) (hk : Kept (fun _ => False) W W') : LogOf w p L W' := ⟨h.l.fresh hk, h.k.trans hk fun _ _ e => e, h.ge, h.ov⟩
theorem LogOf.turn (h : LogOf w p L W) (hl : LogAt W' p L') (hk : Kept (fun k => k = p ∨ L.oV.ownBlock = some k) W W') (hg : Goes W L.oV L'.oV) : LogOf w p L' W' := by
  refine ⟨hl, h.k.trans hk fun k hk e => ?_, h.ge, fun k e => ?_⟩
  · rcases e with rfl | e
    · have := h.ge; omega
    · have := h.ov k e; omega
  · rcases hg k e with e | e
    · exact h.ov k e
    · exact Nat.le_trans h.k.size e
theorem LogOf.made (hl : LogAt W p L) (hk : Kept (fun _ => False) w W) (hg : w.heap.size ≤ p) (hA : L.oA = none) : LogOf w p L W := ⟨hl, hk, hg, fun k e => by unfold Lg.oV at e; rw [hA] at e; cases e⟩
end
def opA : Opr := ⟨⟨1, 6⟩, [⟨1, 5⟩], 4, ⟨0, 0⟩, ⟨0, 0⟩, ⟨#[]⟩, [], 0⟩
def opB : Opr := ⟨⟨1, 8⟩, [⟨1, 7⟩], 4, ⟨0, 0⟩, ⟨0, 0⟩, ⟨#[]⟩, [], 0⟩
def opC : Opr := ⟨⟨0, 0⟩, [], 0, ⟨0, 0⟩, ⟨0, 0⟩, ⟨#[]⟩, [], 0⟩
theorem opA_ok : okOp opA = true := by kernel_rfl
theorem opB_ok : okOp opB = true := by kernel_rfl
theorem opC_ok : okOp opC = false := by kernel_rfl
theorem kn1 : checkV [⟨1, 5⟩] = 0 := by kernel_rfl
theorem kn2 : addE [⟨1, 5⟩] ⟨1, 6⟩ = 0 ∧ coversR (says [⟨1, 5⟩]) (says [⟨1, 5⟩]) = true ∧ addV [⟨1, 5⟩] ⟨1, 6⟩ = [⟨1, 6⟩] := ⟨by kernel_rfl, by kernel_rfl, by kernel_rfl⟩
theorem kn3 : addE [⟨1, 6⟩] ⟨1, 8⟩ = 9 := by kernel_rfl
theorem kn4 : hasV [⟨1, 5⟩] ⟨1, 6⟩ = false ∧ hasV [⟨1, 6⟩] ⟨1, 6⟩ = true := ⟨by kernel_rfl, by kernel_rfl⟩
theorem kn5 : checkV [⟨1, 6⟩] = 0 ∧ coversR (says [⟨1, 6⟩]) (says [⟨1, 6⟩]) = true ∧ vec (maxR (says [⟨1, 5⟩]) (says [⟨1, 6⟩])) = [⟨1, 6⟩] := ⟨by kernel_rfl, by kernel_rfl, by kernel_rfl⟩
theorem small_of {o : Opr} (h1 : o.gone = []) (h2 : o.deps.length ≤ 1) (h3 : o.text = ⟨#[]⟩) : o.Small := ⟨fun r hr => absurd (h1 ▸ hr) (by simp), by omega, by rw [h1]; simp, by rw [h3]; decide⟩
theorem opA_small : opA.Small := small_of rfl (by decide) rfl
theorem opB_small : opB.Small := small_of rfl (by decide) rfl
theorem opC_small : opC.Small := small_of rfl (by decide) rfl

set_option maxRecDepth 100000 in
set_option maxHeartbeats 3200000 in
theorem known_any (w : World) : Calls Try.prog 11 #[] w (BoolPost w true) := by
  have hd1 := Lib.hid (dots_new1 w 1 5 28)
  go_enter Try.func11, Try.ntmps11
  go_wp2_with (fail)
  have HK0 := Lib.hid ((Kept.refl (fun _ => False) w).alloc (.cells #[.int .i64 1, .int .i64 5] 28))
  refine (New_any _ [⟨1, 5⟩] 1 _ hd1.out (by decide)).mono ?_
  rintro e w1 (⟨-, p, L0, rfl, hl, hb, ha, ho, hoA, hge, hk⟩ | ⟨h, -⟩)
  rotate_left
  · exact absurd kn1 h
  have HL0 := Lib.hid (LogOf.made hl (HK0.out.trans hk fun _ _ e => e) (Nat.le_trans HK0.out.size hge) hoA)
  have HB0 := Lib.hid hb
  have HA0 := Lib.hid ha
  have HO0 := Lib.hid ho
  clear hl hb ha ho hoA hge hk HK0 hd1
  go_wp2_with (fail)
  have HX1 := Lib.hid (dots_new1 w1 1 5 28)
  have HL1 := Lib.hid (HL0.out.fresh ((Kept.refl _ _).alloc (.cells #[.int .i64 1, .int .i64 5] 28)))
  have hE1 : addErr L0 opA = 0 := by
    unfold addErr
    rw [opA_ok, HA0.out, if_neg (by decide), if_neg]
    intro h
    rcases h with h | h
    · exact h kn2.1
    · exact absurd (h.symm.trans kn2.2.1) (by decide)
  generalize w1.alloc (.cells #[.int .i64 1, .int .i64 5] 28) = w2 at HX1 HL1 ⊢
  clear HL0
  have hadd := LogAdd_any p L0 ⟨opA, some ⟨w1.heap.size, 0, none⟩, 1, none, 0⟩ w2 HL1.out.l ⟨HX1.out, RunsAt.nil⟩ opA_small (by rw [HO0.out]; decide)
  simp only [hE1, if_true] at hadd
  refine hadd.mono ?_
  rintro e w3 ⟨L1, y, rfl, hb1, ha1, ho1, hyo, hl1, hk1, hg1⟩
  have HL3 := Lib.hid (HL1.out.turn hl1 hk1 hg1)
  have HA1 := Lib.hid (show L1.all = [⟨1, 6⟩] by rw [ha1, HA0.out]; exact kn2.2.2)
  have HB1 := Lib.hid (show L1.base = [⟨1, 5⟩] by rw [hb1, HB0.out])
  have HO1 := Lib.hid (show L1.ops = [y] by rw [ho1, HO0.out]; rfl)
  have HY := Lib.hid (show y.o = opA from hyo)
  clear hb1 ha1 ho1 hyo hl1 hk1 hg1 hadd HX1 HL1 hE1 HA0 HB0 HO0
  go_wp2_with (fail)
  have HX1 := Lib.hid (dots_new1 w3 1 7 28)
  have HL4 := Lib.hid (HL3.out.fresh ((Kept.refl _ _).alloc (.cells #[.int .i64 1, .int .i64 7] 28)))
  have hE2 : addErr L1 opB = 9 := by
    unfold addErr
    rw [opB_ok, HA1.out, if_neg (by decide), if_pos (.inl (by rw [show opB.dot = ⟨1, 8⟩ from rfl, kn3]; decide))]
  generalize w3.alloc (.cells #[.int .i64 1, .int .i64 7] 28) = w4 at HX1 HL4 ⊢
  clear HL3
  have hadd := LogAdd_any p L1 ⟨opB, some ⟨w3.heap.size, 0, none⟩, 1, none, 0⟩ w4 HL4.out.l ⟨HX1.out, RunsAt.nil⟩ opB_small (by rw [HO1.out]; simp)
  refine hadd.mono fun e w5 h => ?_
  rw [hE2, if_neg (by decide)] at h
  unfold IntPost at h
  obtain ⟨rfl, hk5⟩ := h
  have HL5 := Lib.hid (HL4.out.fresh hk5)
  clear hadd HX1 HL4 hE2 hk5
  go_wp2_with (fail)
  have hE3 : addErr L1 opC = 10 := by
    unfold addErr
    rw [opC_ok, if_pos rfl]
  have hadd := LogAdd_any p L1 ⟨opC, none, 0, none, 0⟩ w5 HL5.out.l ⟨DotsAt.nil, RunsAt.nil⟩ opC_small (by rw [HO1.out]; simp)
  refine hadd.mono fun e w6 h => ?_
  rw [hE3, if_neg (by decide)] at h
  unfold IntPost at h
  obtain ⟨rfl, hk6⟩ := h
  have HL6 := Lib.hid (HL5.out.fresh hk6)
  clear hadd HL5 hE3 hk6
  go_wp2_with (fail)
  have HX1 := Lib.hid (dots_new1 w6 1 5 28)
  have HL7 := Lib.hid (HL6.out.fresh ((Kept.refl _ _).alloc (.cells #[.int .i64 1, .int .i64 5] 28)))
  generalize w6.alloc (.cells #[.int .i64 1, .int .i64 5] 28) = w7 at HX1 HL7 ⊢
  clear HL6
  have hlk : lacks [⟨1, 5⟩] L1.ops = [y] := by
    unfold lacks
    rw [if_pos kn1, HO1.out, List.filter_cons_of_pos]
    · rfl
    · rw [HY.out]; simp [opA, kn4.1]
  have hla := Lacks_of (.pointer (some ⟨p, 0, none⟩)) (some ⟨w6.heap.size, 0, none⟩) [⟨1, 5⟩] 1 w7 (lacks [⟨1, 5⟩] L1.ops) fun W hk => Beyond_any p L1 _ [⟨1, 5⟩] 1 W (HL7.out.l.fresh hk) (HX1.out.fresh hk) (by decide)
  rw [hlk] at hla
  refine hla.mono ?_
  unfold IntPost
  rintro e w8 ⟨rfl, hk8⟩
  have HL8 := Lib.hid (HL7.out.fresh hk8)
  clear hla hlk HX1 HL7 hk8
  go_wp2_with (fail)
  have HX1 := Lib.hid (dots_new1 w8 1 6 28)
  have HL9 := Lib.hid (HL8.out.fresh ((Kept.refl _ _).alloc (.cells #[.int .i64 1, .int .i64 6] 28)))
  have HOV := Lib.hid (fun k (hk : L1.oV.ownBlock = some k) => (HL8.out.l.o.lt k hk).2)
  generalize w8.alloc (.cells #[.int .i64 1, .int .i64 6] 28) = w9 at HX1 HL9 ⊢
  clear HL8
  have hcu := Cut_yes p L1 (some ⟨w8.heap.size, 0, none⟩) [⟨1, 6⟩] 1 w9 HL9.out.l HX1.out (by decide) (fun _ a ha e => by injection ha with ha; subst ha; exact Nat.lt_irrefl _ (HOV.out _ e))
    (by unfold cutErr; rw [HA1.out, if_neg (by rw [kn5.1]; simp), if_neg (by rw [kn5.2.1]; simp)])
  refine hcu.mono ?_
  rintro e w10 ⟨L2, gs, A, c, rfl, hgo, hgr, hlan, hl2, hb2, ha2, ho2, hk2, hg2⟩
  have HL10 := Lib.hid (HL9.out.turn hl2 hk2 hg2)
  have HB2 := Lib.hid (show L2.base = [⟨1, 6⟩] by rw [hb2, HB1.out]; exact kn5.2.2)
  have HO2 := Lib.hid (show L2.ops = [] by
    rw [ho2, HO1.out, List.filter_cons_of_neg]
    · rfl
    · rw [HY.out]; simp [opA, kn4.2])
  have hgl : gs.length = 1 := by
    have := congrArg List.length hgo
    simp only [List.length_map] at this
    rw [this, HO1.out, List.filter_cons_of_pos]
    · rfl
    · rw [HY.out]; exact kn4.2
  rw [hgl]
  clear hgo hgr hlan hl2 hb2 ha2 ho2 hk2 hg2 hcu HX1 HL9 HOV HA1 HB1 HO1 HY hgl
  go_wp2_with (fail)
  refine (Len_any p L2 w10 HL10.out.l).mono ?_
  unfold IntPost
  rw [HO2.out]
  rintro e w11 ⟨rfl, hk11⟩
  have HL11 := Lib.hid (HL10.out.fresh hk11)
  clear hk11 HL10
  go_wp2_with (fail)
  refine (Base_any p L2 w11 HL11.out.l).mono ?_
  rw [HB2.out]
  rintro e w12 hf
  obtain ⟨A12, c12, rfl, hd12, hk12⟩ := hf.at
  have HL12 := Lib.hid (HL11.out.fresh hk12)
  have HD12 := Lib.hid hd12
  clear hf hd12 hk12 HL11
  go_wp2_with (fail)
  have HK13 := Lib.hid ((Kept.refl (fun _ => False) w12).alloc (.cells #[.int .i64 1, .int .i64 6] 28))
  refine (vectors_any A12 (some ⟨w12.heap.size, 0, none⟩) [⟨1, 6⟩] [⟨1, 6⟩] c12 1 _ (HD12.out.fresh HK13.out) (dots_new1 w12 1 6 28) (by decide)).mono ?_
  unfold SamePost
  rw [decide_eq_true rfl]
  rintro e w14 ⟨rfl, hk14⟩
  have HK := Lib.hid ((HL12.out.fresh HK13.out).fresh hk14).k
  go_wp2
  go_ret
  exact ⟨rfl, HK.out⟩
end Go.Proofs.Ytnfehkncfjgeeaa

namespace Go.Proofs.Ytnfehkncfjgeeaa
open Go Go.RowKit

theorem info_step : (Try.prog.info? 47).map (fun i => (i.zero, i.size, i.bytes)) = some (some (.agg #[.int .i64 0, .int .i64 0, .int .i64 0, .slice none 0 0, .int .i64 0, .int .i64 0, .int .i64 0, .int .i64 0, .int .i64 0, .string ⟨#[]⟩, .slice none 0 0, .int .i64 0, .slice none 0 0]), 13, 160) := by kernel_rfl
def Stp.c (s : Stp) : Array Value := #[.int .i64 s.kind, .int .i64 s.x.o.dot.site, .int .i64 s.x.o.dot.seq, .slice s.x.dA s.x.o.deps.length s.x.dc, .int .i64 s.x.o.kind, .int .i64 s.x.o.id.time, .int .i64 s.x.o.id.site, .int .i64 s.x.o.ref.time, .int .i64 s.x.o.ref.site, .string s.x.o.text, .slice s.x.gA s.x.o.gone.length s.x.gc, .int .i64 s.x.o.site, .slice s.vA s.v.length s.vc]
theorem steps_new (w : World) (s : Stp) (T : TypeId) : StepsAt (w.alloc (.cells s.c T)) (some ⟨w.heap.size, 0, none⟩) [s] := fun k hk => by
  obtain rfl : k = 0 := by simp at hk; omega
  have hb := Box.new w T s.c
  refine ⟨_, rfl, hb.cell 0, fun j v hj => ?_, hb.cell 12⟩
  have hj' : j < 11 := by
    have := (List.getElem?_eq_some_iff.1 hj).1
    rwa [Array.length_toList, Lop.c_size] at this
  rw [← hj]
  match j, hj' with
  | 0, _ => exact hb.cell 1
  | 1, _ => exact hb.cell 2
  | 2, _ => exact hb.cell 3
  | 3, _ => exact hb.cell 4
  | 4, _ => exact hb.cell 5
  | 5, _ => exact hb.cell 6
  | 6, _ => exact hb.cell 7
  | 7, _ => exact hb.cell 8
  | 8, _ => exact hb.cell 9
  | 9, _ => exact hb.cell 10
  | 10, _ => exact hb.cell 11

theorem box11 {w : World} {g : Nat} {t : TypeId} {a0 a1 a2 a3 a4 a5 a6 a7 a8 a9 a10 : Value} (h : Box w g t #[a0, a1, a2, a3, a4, a5, a6, a7, a8, a9, a10]) :
    w.cell? ⟨g, 0, none⟩ = some a0 ∧ w.cell? ⟨g, 1, none⟩ = some a1 ∧ w.cell? ⟨g, 2, none⟩ = some a2 ∧ w.cell? ⟨g, 3, none⟩ = some a3 ∧ w.cell? ⟨g, 4, none⟩ = some a4 ∧ w.cell? ⟨g, 5, none⟩ = some a5 ∧
    w.cell? ⟨g, 6, none⟩ = some a6 ∧ w.cell? ⟨g, 7, none⟩ = some a7 ∧ w.cell? ⟨g, 8, none⟩ = some a8 ∧ w.cell? ⟨g, 9, none⟩ = some a9 ∧ w.cell? ⟨g, 10, none⟩ = some a10 :=
  ⟨h.cell 0, h.cell 1, h.cell 2, h.cell 3, h.cell 4, h.cell 5, h.cell 6, h.cell 7, h.cell 8, h.cell 9, h.cell 10⟩

set_option maxRecDepth 100000 in
set_option maxHeartbeats 3200000 in
theorem Nothing_walk (x : Lop) (V : Option Addr) (v : List Dt) (vc : Nat) (w : World) :
    Calls Try.prog 5 #[.agg x.c, .slice V v.length vc] w (BoolPost w true) := by
  have HK0 := Lib.hid ((Kept.refl (fun _ => False) w).alloc (.cells x.c 45))
  have HBX := Lib.hid (Box.new w 45 x.c)
  have HXX := Lib.hid (fun W => Add_nil x W)
  have HMU := Lib.hid (much_any (some ⟨w.heap.size + 1, 0, none⟩) [⟨0, x, V, vc, v⟩] 1 none 0 0 ((w.alloc (.cells x.c 45)).alloc (.cells (Stp.c ⟨0, x, V, vc, v⟩) 47)) (by have := steps_new (w.alloc (.cells x.c 45)) ⟨0, x, V, vc, v⟩ 47; rwa [World.size_alloc] at this) (by simp) (by decide))
  obtain ⟨b, hb⟩ : ∃ b, muchB [⟨0, x, V, vc, v⟩] 0 = b := ⟨_, rfl⟩
  rw [hb] at HMU
  clear hb
  obtain ⟨⟨⟨ds, dq⟩, deps, kind, ⟨it, is⟩, ⟨rt, rs⟩, text, gone, site⟩, dA, dc, gA, gc⟩ := x
  have c0 := HBX.out.cell 0
  have c1 := HBX.out.cell 1
  have c2 := HBX.out.cell 2
  have c3 := HBX.out.cell 3
  have c4 := HBX.out.cell 4
  have c5 := HBX.out.cell 5
  have c6 := HBX.out.cell 6
  have c7 := HBX.out.cell 7
  have c8 := HBX.out.cell 8
  have c9 := HBX.out.cell 9
  have c10 := HBX.out.cell 10
  simp only [Lop.c, Opr.cells, List.getElem?_toArray, List.getElem?_cons_succ, List.getElem?_cons_zero] at c0 c1 c2 c3 c4 c5 c6 c7 c8 c9 c10
  unfold Stp.c at HMU
  unfold Lop.c Opr.cells at HK0 HBX HXX HMU ⊢
  simp only at HK0 HBX HXX HMU ⊢
  go_enter Try.func5, Try.ntmps5
  go_wp2_with (fail)
  refine HMU.out.mono ?_
  unfold BoolPost
  rintro e w1 ⟨rfl, hk1⟩
  have hk01 := (((Kept.refl (fun _ => False) w).alloc (.cells #[.int .i64 ds, .int .i64 dq, .slice dA deps.length dc, .int .i64 kind, .int .i64 it, .int .i64 is, .int .i64 rt, .int .i64 rs, .string text, .slice gA gone.length gc, .int .i64 site] 45)).alloc (.cells #[.int .i64 0, .int .i64 ds, .int .i64 dq, .slice dA deps.length dc, .int .i64 kind, .int .i64 it, .int .i64 is, .int .i64 rt, .int .i64 rs, .string text, .slice gA gone.length gc, .int .i64 site, .slice V v.length vc] 47)).trans hk1 fun _ _ e => e
  have HK1 := Lib.hid hk01
  have HB1 := Lib.hid ((HBX.out.alloc (.cells #[.int .i64 0, .int .i64 ds, .int .i64 dq, .slice dA deps.length dc, .int .i64 kind, .int .i64 it, .int .i64 is, .int .i64 rt, .int .i64 rs, .string text, .slice gA gone.length gc, .int .i64 site, .slice V v.length vc] 47)).kept hk1 id)
  clear hk01 hk1 HMU HBX HK0 c0 c1 c2 c3 c4 c5 c6 c7 c8 c9 c10
  cases b with
  | true =>
    go_wp2_with (fail)
    refine (known_any w1).mono ?_
    unfold BoolPost
    rintro e w2 ⟨rfl, hk2⟩
    have HK2 := Lib.hid (HK1.out.trans hk2 fun _ _ e => e)
    clear hk2
    go_wp2
    go_ret
    exact ⟨rfl, HK2.out⟩
  | false =>
    go_wp2_with (fail)
    refine (Cut_nil V v vc w1).mono ?_
    rintro e w2 ⟨rfl, hk2⟩
    have HK2 := Lib.hid (HK1.out.trans hk2 fun _ _ e => e)
    have HB2 := Lib.hid (HB1.out.kept hk2 id)
    clear hk2 HK1 HB1
    go_wp2_with (fail)
    refine (Beyond_nil V v vc w2).mono ?_
    rintro e w3 ⟨B, A, c, rfl, hit, -, -, hk3⟩
    have HIT := Lib.hid hit
    have HK3 := Lib.hid (HK2.out.trans hk3 fun _ _ e => e)
    have HB3 := Lib.hid (HB2.out.kept hk3 id)
    clear hk3 HK2 HB2 hit
    have hN : ∀ W : World, (binOp .neq 56 (.func (.func 51) #[] #[.pointer (some ⟨B, 0, none⟩)]) .nilFunc).run Try.prog W = .ok (.bool true) W := fun _ => rfl
    go_wp2_with (fail)
    refine (rest_any B [] A c 3 w3 HIT.out (by decide) (by decide)).mono ?_
    rintro e w4 ⟨ys, RA, rc, rfl, hys, -, -, hk4⟩
    have hyl : ys.length = 0 := by simpa using congrArg List.length hys
    rw [hyl]
    have HK4 := Lib.hid (HK3.out.trans hk4 fun _ _ e => e)
    have HB4 := Lib.hid (HB3.out.kept hk4 id)
    clear hk4 HK3 HB3 hys hyl HIT hN
    obtain ⟨c0, c1, c2, c3, c4, c5, c6, c7, c8, c9, c10⟩ := box11 HB4.out
    go_wp2_with (fail)
    refine (HXX.out w4).mono ?_
    unfold IntPost
    rintro e w5 ⟨rfl, hk5⟩
    have HK5 := Lib.hid (HK4.out.trans hk5 fun _ _ e => e)
    clear hk5 HK4 HB4 c0 c1 c2 c3 c4 c5 c6 c7 c8 c9 c10
    go_wp2_with (fail)
    refine (Lacks_of (.pointer none) V v vc w5 [] fun W _ => Beyond_nil V v vc W).mono ?_
    unfold IntPost
    rintro e w6 ⟨rfl, hk6⟩
    have HK6 := Lib.hid (HK5.out.trans hk6 fun _ _ e => e)
    clear hk6 HK5
    go_wp2_with (fail)
    refine (Base_nil w6).mono ?_
    rintro e w7 ⟨A7, c7, rfl, -, hk7⟩
    have HK7 := Lib.hid (HK6.out.trans hk7 fun _ _ e => e)
    clear hk7 HK6
    go_wp2_with (fail)
    refine (Vector_nil w7).mono ?_
    rintro e w8 ⟨A8, c8, rfl, -, hk8⟩
    have HK8 := Lib.hid (HK7.out.trans hk8 fun _ _ e => e)
    clear hk8 HK7
    go_wp2_with (fail)
    refine (Len_nil w8).mono ?_
    unfold IntPost
    rintro e w9 ⟨rfl, hk9⟩
    have HK9 := Lib.hid (HK8.out.trans hk9 fun _ _ e => e)
    clear hk9 HK8
    go_wp2_with (fail)
    refine (known_any w9).mono ?_
    unfold BoolPost
    rintro e w10 ⟨rfl, hk10⟩
    have HK10 := Lib.hid (HK9.out.trans hk10 fun _ _ e => e)
    clear hk10 HK9
    go_wp2
    go_ret
    exact ⟨rfl, HK10.out⟩
end Go.Proofs.Ytnfehkncfjgeeaa
