/- The walks of the reference's Deliver, Drop, Copies. Conditions: the network lies in memory. -/
import Derived.Test.YtopcogogpbcbhaaNRs
namespace Go.Proofs.Ytopcogogpbcbhaa
open Go Go.RowKit

theorem off_parts {s : Nt} (hok : s.Ok) {n : Int} {j : Nat} (hj : j < s.l.length) (hg : s.get n = some s.l[j]) : (s.off n).l = s.l.take j ++ s.l.drop (j + 1) := by
  have hn : (s.l[j].num : Int) = n := (Nt.get_mem hg).2
  have hp := List.pairwise_iff_getElem.1 hok.up
  have e : s.l = s.l.take j ++ s.l[j] :: s.l.drop (j + 1) := by rw [← List.drop_eq_getElem_cons hj, List.take_append_drop]
  have hA : (s.l.take j).filter (fun c => !c.is n) = s.l.take j := filter_all fun c hc => by
    obtain ⟨i, hi, rfl⟩ := List.getElem_of_mem hc
    rw [List.length_take] at hi
    have := hp i j (by omega) hj (by omega)
    rw [List.getElem_take]
    omega
  have hB : (s.l.drop (j + 1)).filter (fun c => !c.is n) = s.l.drop (j + 1) := filter_all fun c hc => by
    obtain ⟨i, hi, rfl⟩ := List.getElem_of_mem hc
    rw [List.length_drop] at hi
    have := hp j (j + 1 + i) hj (by omega) (by omega)
    rw [List.getElem_drop]
    omega
  have hC : (!(s.l[j]).is n) = false := by simp [Cp.is, hn]
  have h2 : s.l.filter (fun c => !c.is n) = (s.l.take j ++ s.l[j] :: s.l.drop (j + 1)).filter (fun c => !c.is n) := congrArg (List.filter fun c => !c.is n) e
  show s.l.filter (fun c => !c.is n) = _
  rw [h2, List.filter_append, hA, List.filter_cons_of_neg (by rw [hC]; simp), hB]
/-- What Deliver leaves: what is told lies apart from the network. -/
def RDelPost (w : World) (p : Nat) (F : Nat → Prop) (x : (Cp × Int) × Nt) (r : Ending) (w' : World) : Prop :=
  ∃ A cap, r = .returned (.tuple #[.agg (cpC x.1.1 A cap), .int .i64 x.1.2]) ∧ w'.ownsRow w.heap.size 5 1 (.slice A x.1.1.data.length cap) x.1.1.data.length (bys x.1.1.data) ∧ (∃ F' L lc hs, RNetAt w' p F' x.2 L lc hs ∧ (∀ k, F' k → F k ∨ w.heap.size ≤ k) ∧ ∀ k, (Value.slice A x.1.1.data.length cap).ownBlock = some k → ¬ F' k) ∧ Kept F w w'
theorem hes_take (l : List He) (j : Nat) : hes (l.take j) = (hes l).take (j * 7) := by
  induction l generalizing j with
  | nil => simp [hes]
  | cons x l ih =>
    cases j with
    | zero => simp [hes]
    | succ j =>
      have e : hes (x :: l) = x.cs.toList ++ hes l := rfl
      have hx : x.cs.toList.length = 7 := by rw [Array.length_toList, He.cs_size]
      rw [List.take_succ_cons, e, show hes (x :: l.take j) = x.cs.toList ++ hes (l.take j) from rfl, ih, List.take_append, List.take_of_length_le (l := x.cs.toList) (by omega), hx, show (j + 1) * 7 - 7 = j * 7 by omega]
theorem hes_drop (l : List He) (j : Nat) : hes (l.drop j) = (hes l).drop (j * 7) := by
  induction l generalizing j with
  | nil => simp [hes]
  | cons x l ih =>
    cases j with
    | zero => simp
    | succ j =>
      have e : hes (x :: l) = x.cs.toList ++ hes l := rfl
      have hx : x.cs.toList.length = 7 := by rw [Array.length_toList, He.cs_size]
      rw [List.drop_succ_cons, ih, e, List.drop_append, List.drop_of_length_le (l := x.cs.toList) (by omega), List.nil_append, hx, show (j + 1) * 7 - 7 = j * 7 by omega]
/-- The row made anew without one of its copies. -/
theorem RNetAt.less {w W : World} {p : Nat} {F : Nat → Prop} {s : Nt} {L : Option Addr} {lc : Nat} {hs : List He} (h : RNetAt w p F s L lc hs) {n : Int} {j : Nat} (hj : j < s.l.length) (hg : s.get n = some s.l[j]) {L' : Option Addr} {lc' m base : Nat} (hm : m = (hs.take j ++ hs.drop (j + 1)).length)
    (hk : Kept (fun k => k = p) w W) (hbox : Box W p 62 #[.slice L' m lc', .int .i64 s.last]) (hrow : W.ownsRow base 79 7 (.slice L' m lc') m (hes (hs.take j) ++ hes (hs.drop (j + 1)))) :
    RNetAt W p (fun k => (F k ∨ base ≤ k) ∧ k < W.heap.size) (s.off n) L' lc' (hs.take j ++ hs.drop (j + 1)) := by
  subst hm
  have hsub : ∀ x ∈ hs.take j ++ hs.drop (j + 1), x ∈ hs := fun x hx => by
    rcases List.mem_append.1 hx with h | h
    · exact List.mem_of_mem_take h
    · exact List.mem_of_mem_drop h
  refine ⟨?_, hbox, ?_, ⟨.inl h.fp, hbox.lt⟩, fun k e => ⟨.inr (hrow.lt k e).1, (hrow.lt k e).2⟩, fun x hx => ?_, fun k e => e.2, h.ok.off n, h.last⟩
  · rw [off_parts h.ok hj hg, List.map_append, List.map_take, List.map_drop, h.tie]
  · rw [hes_app]; exact own_base hrow (Nat.zero_le _)
  · have ha := h.ats x (hsub x hx)
    exact ⟨hk.own ha.d fun k e e2 => own_box_ne ha.d h.box (by decide) (by rw [e, e2]), hk.own ha.cl fun k e e2 => own_box_ne ha.cl h.box (by decide) (by rw [e, e2]), fun k e => ⟨.inl (ha.Fd k e), Nat.lt_of_lt_of_le (h.lt k (ha.Fd k e)) hk.size⟩, fun k e => ⟨.inl (ha.Fc k e), Nat.lt_of_lt_of_le (h.lt k (ha.Fc k e)) hk.size⟩⟩
set_option maxRecDepth 100000 in
set_option maxHeartbeats 6400000 in
theorem RDeliver_any (p : Nat) (F : Nat → Prop) (s : Nt) (L : Option Addr) (lc : Nat) (hs : List He) (w : World) (h : RNetAt w p F s L lc hs) (n : Int) :
    Calls Try.prog 29 #[.pointer (some ⟨p, 0, none⟩), .int .i64 n] w (RDelPost w p F (s.deliver n)) := by
  have hka : Kept (fun _ => False) w (w.alloc (.cells (cpC zeroCp none 0) 44)) := (Kept.refl _ _).alloc _
  have HK0 := Lib.hid hka
  have HZ := Lib.hid (h.fresh hka)
  have HR := Lib.hid (Box.new w 44 (cpC zeroCp none 0))
  have HY := Lib.hid (show ∀ c, s.get n = some c → s.deliver n = ((c, 0), s.off n) from fun c e => by unfold Nt.deliver; rw [e])
  have HNO := Lib.hid (show s.get n = none → s.deliver n = ((zeroCp, 11), s) from fun e => by unfold Nt.deliver; rw [e])
  have HFL := Lib.hid h.lt
  have HZW := Lib.hid h
  clear h hka
  obtain ⟨z, hz⟩ : ∃ z, s.deliver n = z := ⟨_, rfl⟩
  rw [hz] at HY HNO ⊢
  clear hz
  go_enter Try.func29, Try.ntmps29
  go_upto_region 1 with (fail)
  have hzz : w.alloc (.cells #[.int .i64 0, .int .i64 0, .int .i64 0, .slice none 0 0, .int .i64 0, .bool false] 44) = w.alloc (.cells (cpC zeroCp none 0) 44) := rfl
  rw [hzz]
  clear hzz
  generalize w.alloc (.cells (cpC zeroCp none 0) 44) = w0 at HK0 HZ HR ⊢
  obtain ⟨R, hR⟩ : ∃ R, w.heap.size = R := ⟨_, rfl⟩
  have HWR := Lib.hid hR
  rw [hR] at HR ⊢
  clear hR
  go_wp2_with (fail)
  refine (RPlace_any p F s L lc hs w0 HZ.out HZ.out.small n).mono ?_
  rintro r w1 ⟨hk, ⟨rfl, hg⟩ | ⟨j, hj, rfl, hg⟩⟩
  · as_aux_lemma =>
    have HE := Lib.hid (HNO.out hg)
    have HR1 := Lib.hid (HR.out.kept hk id)
    have HZ1 := Lib.hid (HZ.out.fresh hk)
    have HK1 := Lib.hid (HK0.out.trans hk fun _ _ e => e)
    clear hk hg HY HNO
    go_wp2_with (refine wpList_store_box rfl 44 _ _ rfl R (cpC zeroCp none 0) rfl rfl 44 (cpC zeroCp none 0) HR1.out (size_cp.trans rfl) rfl (cpC_one _ _ _) ?_; intro w4 HB4 hk4)
    refine bodyPost_ret (results_cell_slot (show Try.f29.results = #[.cell 4 44, .tmp 5] by kernel_rfl) _ _ _ _ R rfl (load_CP HB4.out) rfl) rfl ?_
    rw [HE.out]
    exact ⟨none, 0, rfl, World.ownsRow_nil _ _ _ _, ⟨F, L, lc, hs, HZ1.out.kept hk4 (fun k e e2 => by have := HFL.out k e; have := HWR.out; omega), fun _ e => .inl e, fun k e => (by cases e)⟩, (HK1.out.more fun _ _ e => e.elim).trans hk4 fun k hk e => by have := HWR.out; omega⟩
  · as_aux_lemma =>
    have HE := Lib.hid (HY.out _ hg)
    have HZ1 := Lib.hid (HZ.out.fresh hk)
    have HR1 := Lib.hid (HR.out.kept hk id)
    have HK1 := Lib.hid (HK0.out.trans hk fun _ _ e => e)
    have HG := Lib.hid hg
    have hjl : j < hs.length := by rw [HZ.out.len]; exact hj
    have hxc := he_map HZ.out.tie hjl hj
    obtain ⟨x, hx⟩ : ∃ x, hs[j] = x := ⟨_, rfl⟩
    have HXM := Lib.hid (show x ∈ hs by rw [← hx]; exact List.getElem_mem hjl)
    have HPT := Lib.hid (he_part hjl hx).2
    rw [hx] at hxc
    have HXC := Lib.hid hxc
    rw [← hxc] at HE
    have hxl : x.c.data.length ≤ 60000 := by rw [hxc]; exact (HZ.out.ok.len _ (List.getElem_mem hj)).2
    obtain ⟨g, e1, -, hgc, -⟩ := own_cells HZ1.out.row (by omega)
    subst e1
    have hcaps := own_caps HZ1.out.row
    have hsm := HZ1.out.small
    have hj0 : (0 : Int) ≤ (j : Int) := by omega
    have hji : (j : Int) < (hs.length : Int) := by omega
    have hjn : ¬ (j : Int) < 0 := by omega
    have hjc : (j : Int) ≤ (lc : Int) := by omega
    have x0 : w1.cell? ⟨p, 0, none⟩ = some (.slice (some ⟨g, 0, none⟩) hs.length lc) := (HZ1.out.box.cell 0).trans rfl
    have HN := Lib.hid (Box.new w1 44 (cpC zeroCp none 0))
    clear hk hg hx hxc HY HNO HZ hgc
    go_wp2_with (first | (refine load_part rfl 44 _ rfl g (j * 7) rfl HZ1.out.row (cpC x.c x.dA x.dc) und_cp size_cp HPT.out ?_) | (refine wpList_store_box rfl 44 _ _ rfl w1.heap.size (cpC x.c x.dA x.dc) rfl rfl 44 (cpC zeroCp none 0) HN.out size_cp rfl (cpC_one _ _ _) ?_))
    intro w2 HB2 hk2
    have hk2' : Kept (fun _ => False) w1 w2 := ((Kept.refl _ w1).alloc _).trans hk2 fun j hj e => by omega
    have HZ2 := Lib.hid (HZ1.out.fresh hk2')
    have HR2 := Lib.hid (HR1.out.kept hk2' id)
    have HK2 := Lib.hid (HK1.out.trans hk2' fun _ _ e => e)
    have HXR := Lib.hid (Nat.lt_of_lt_of_le HR1.out.lt (Nat.le_refl _))
    obtain ⟨X, hX⟩ : ∃ X, w1.heap.size = X := ⟨_, rfl⟩
    rw [hX] at HB2 HXR ⊢
    have y0 : w2.cell? ⟨p, 0, none⟩ = some (.slice (some ⟨g, 0, none⟩) hs.length lc) := (HZ2.out.box.cell 0).trans rfl
    have hsrc := own_src HZ2.out.row
    have HSR1 := Lib.hid (show ∀ i u, (hes (hs.take j))[i]? = some u → ∃ ad, (some ⟨g, 0, none⟩ : Option Addr) = some ad ∧ w2.cell? (ad.add i) = some u from fun i u hi => hsrc i u (by
      rw [hes_take, List.getElem?_take] at hi
      split at hi
      · exact hi
      · cases hi))
    have HL1 := Lib.hid (show (hes (hs.take j)).length = j * 7 by rw [hes_len, List.length_take]; congr 1; omega)
    clear hk2 hk2' hX hsrc HZ1 HR1 HK1 HN x0
    go_wp2_with (at_builtin; refine wpList_append_copy eltHeld rfl _ _ rfl rfl (some ⟨g, 0, none⟩) j lc (hes (hs.take j)) rfl (fun h => by cases h) HL1.out HSR1.out (hes_one _) (by omega) ?_)
    intro L3 lc3 w3 HO3 HK3
    have HZ3 := Lib.hid (HZ2.out.fresh HK3.out)
    have HR3 := Lib.hid (HR2.out.kept HK3.out id)
    have HB3 := Lib.hid (HB2.out.kept HK3.out id)
    have HK03 := Lib.hid (HK2.out.trans HK3.out fun _ _ e => e)
    have HS2 := Lib.hid HK2.out.size
    have HK3S := Lib.hid HK3.out.size
    have HRL := Lib.hid HR2.out.lt
    have HXL := Lib.hid HB2.out.lt
    have z0 : w3.cell? ⟨p, 0, none⟩ = some (.slice (some ⟨g, 0, none⟩) hs.length lc) := (HZ3.out.box.cell 0).trans rfl
    obtain ⟨J, hJ⟩ : ∃ J, j + 1 = J := ⟨_, rfl⟩
    have HJ := Lib.hid hJ
    have hw : IntKind.i64.wrap ((j : Int) + 1) = (J : Int) := by rw [IntWalk.i64_in _ ⟨by omega, by omega⟩]; omega
    have hJ0 : (0 : Int) ≤ (J : Int) := by omega
    have hJl : (J : Int) ≤ (hs.length : Int) := by omega
    have hJn : J ≤ hs.length := by omega
    have hlc : hs.length ≤ lc := hcaps.1
    have hsrc := own_src HZ3.out.row
    have HSR2 := Lib.hid (show ∀ i u, (hes (hs.drop J))[i]? = some u → ∃ ad, (if lc = J then some ⟨g, 0, none⟩ else some ⟨g, J * 7, none⟩ : Option Addr) = some ad ∧ w3.cell? (ad.add i) = some u from fun i u hi => by
      by_cases hlJ : lc = J
      · rw [List.drop_of_length_le (by omega)] at hi
        simp [hes] at hi
      rw [if_neg hlJ]
      rw [hes_drop, List.getElem?_drop] at hi
      obtain ⟨ad, e1, e2⟩ := hsrc _ u hi
      injection e1 with e1
      subst e1
      refine ⟨_, rfl, ?_⟩
      rw [add_none] at e2
      rw [← e2]
      congr 1
      unfold Addr.add
      split
      · rename_i h0; subst h0; rfl
      · rfl)
    have HL2 := Lib.hid (show (hes (hs.drop J)).length = (hs.length - J) * 7 by rw [hes_len, List.length_drop])
    have HOB := Lib.hid HO3.out
    clear hJ hsrc HZ2 HR2 HB2 HK2 y0 HSR1 HL1 HK3
    have HBS := Lib.hid (own_base HO3.out HS2.out)
    have HPB := Lib.hid (show ∀ k, (Value.slice L3 j lc3).ownBlock = some k → w2.heap.size ≤ k from fun k e => (HO3.out.lt k e).1)
    have hs23 : w2.heap.size ≤ w3.heap.size := HK3S.out
    go_wp2_with (at_builtin; refine wpList_append_kit eltHeld rfl _ _ rfl w2.heap.size _ j (hes (hs.take j)) rfl HOB.out (if lc = J then some ⟨g, 0, none⟩ else some ⟨g, J * 7, none⟩) (hs.length - J) (lc - J) (hes (hs.drop J)) rfl (fun h => by split at h <;> cases h) HL2.out HSR2.out (hes_one _) (by omega) hs23 ?_)
    all_goals
      intro L5 lc5 w5 HO5 HK5 HG5
      have hne : ∀ k, k < w2.heap.size → ¬ (Value.slice L3 j lc3).ownBlock = some k := fun k hk e => by have := HPB.out k e; omega
      have hlt2 : ∀ k, F k → k < w2.heap.size := fun k e => Nat.lt_of_lt_of_le (HFL.out k e) HS2.out
      have HZ5 := Lib.hid (HZ3.out.kept HK5.out fun k e => hne k (hlt2 k e))
      have HR5 := Lib.hid (HR3.out.kept HK5.out (hne _ HRL.out))
      have HB5 := Lib.hid (HB3.out.kept HK5.out (hne _ HXL.out))
      have HK05 := Lib.hid (HK03.out.trans HK5.out fun k hk e => hne k (Nat.lt_of_lt_of_le hk HS2.out) e)
      have v0 : w5.cell? ⟨p, 0, none⟩ = some (.slice (some ⟨g, 0, none⟩) hs.length lc) := (HZ5.out.box.cell 0).trans rfl
      have fz : w5.frozen? ⟨p, 0, none⟩ = false := HZ5.out.box.frozen 0
      have HPW := Lib.hid HZ5.out.box.lt
      have HJM := Lib.hid (show j + (hs.length - J) = (hs.take j ++ hs.drop (j + 1)).length by rw [List.length_append, List.length_take, List.length_drop, HJ.out]; omega)
      clear hne hlt2 HZ3 HR3 HB3 HK03 HOB HBS HPB HO3 HSR2 HL2 HK5 HG5 z0 hs23
      have hk6 : Kept (fun k => k = p) w5 (w5.setCell ⟨p, 0, none⟩ (.slice L5 (j + (hs.length - J)) lc5)) := Kept.at (Kept.refl _ _) 0 _ (.inl rfl)
      have hpR : R ≠ p := fun e => by have := HFL.out p HZ5.out.fp; have := HWR.out; omega
      have hpX : X ≠ p := fun e => by have := HFL.out p HZ5.out.fp; have := HXR.out; have := HWR.out; omega
      have HR6 := Lib.hid (HR5.out.kept hk6 hpR)
      have HB6 := Lib.hid (HB5.out.kept hk6 hpX)
      have hb6 := HZ5.out.box.set 0 (.slice L5 (j + (hs.length - J)) lc5)
      have ho6 := hk6.own HO5.out fun k e e2 => own_box_ne HO5.out HZ5.out.box (by decide) (by rw [e, e2])
      have HK6 := Lib.hid ((HK05.out.more (T := F) fun _ _ e => e.elim).trans hk6 fun k hk e => by rw [e]; exact HZ5.out.fp)
      have HNEW := Lib.hid (HZW.out.less (j := j) hj HG.out HJM.out ((HK05.out.more (T := fun k => k = p) fun _ _ e => e.elim).trans hk6 fun _ _ e => e) hb6 (by rw [show hs.drop J = hs.drop (j + 1) by rw [HJ.out]] at ho6; exact ho6))
      have ha := HZ5.out.ats x HXM.out
      have HD6 := Lib.hid (hk6.own ha.d fun k e e2 => own_box_ne ha.d HZ5.out.box (by decide) (by rw [e, e2]))
      clear ha hb6 ho6 hk6 HZ5 HR5 HB5 HK05
      go_wp2_with (refine load_cp_box rfl _ rfl X rfl (cpC x.c x.dA x.dc) rfl _ HB6.out ?_)
      refine (RTold_any x.c x.dA x.dc _ (BytesAt.of_own HD6.out) (own_noneNil HD6.out) hxl).mono ?_
      rintro r w7 ⟨A7, c7, rfl, ho, hk⟩
      have HO7 := Lib.hid ho
      have HR7 := Lib.hid (HR6.out.kept hk id)
      have HN7 := Lib.hid (HNEW.out.fresh hk)
      have HK7 := Lib.hid (HK6.out.trans hk fun _ _ e => e.elim)
      have HSZ := Lib.hid (show w.heap.size < (w5.setCell ⟨p, 0, none⟩ (.slice L5 (j + (hs.length - J)) lc5)).heap.size from by rw [HWR.out]; exact HR6.out.lt)
      clear ho hk HR6 HNEW HK6 HD6 HB6 v0 fz
      go_wp2_with (refine wpList_store_box rfl 44 _ _ rfl R (cpC x.c A7 c7) rfl rfl 44 (cpC zeroCp none 0) HR7.out (size_cp.trans rfl) rfl (cpC_one _ _ _) ?_; intro w8 HB8 hk8)
      refine bodyPost_ret (results_cell_slot (show Try.f29.results = #[.cell 4 44, .tmp 5] by kernel_rfl) _ _ _ _ R rfl (load_CP HB8.out) rfl) rfl ?_
      rw [HE.out]
      have hsz := HSZ.out
      have hwr := HWR.out
      have hrl := HRL.out
      have hs2 := HS2.out
      refine ⟨A7, c7, rfl, hk8.own (own_base HO7.out (by omega)) (fun k e e2 => by have := (HO7.out.lt k e).1; omega), ⟨_, L5, lc5, _, HN7.out.kept hk8 fun k e e2 => ?_, fun k e => e.1.imp id fun e => by omega, fun k e e2 => by have := (HO7.out.lt k e).1; omega⟩, HK7.out.trans hk8 fun k hk e => by omega⟩
      rcases e.1 with e | e
      · have := HFL.out k e; omega
      · omega
end Go.Proofs.Ytopcogogpbcbhaa
