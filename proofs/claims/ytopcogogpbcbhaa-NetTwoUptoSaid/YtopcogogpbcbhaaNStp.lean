/- The walk of the law's step: one call on a network and on the reference's. Conditions: both lie in memory of their own, the step's bytes elsewhere. -/
import Derived.Test.YtopcogogpbcbhaaNRw
namespace Go.Proofs.Ytopcogogpbcbhaa
open Go Go.RowKit

theorem beq_one (e : Int) : (e == e) = true := by simp
theorem deliver_len {s : Nt} (h : s.Ok) (n : Int) : (s.deliver n).1.1.data.length ≤ 60000 := by
  unfold Nt.deliver
  cases hg : s.get n with
  | none => exact Nat.zero_le _
  | some c => exact (h.len c (Nt.get_mem hg).1).2
theorem step_send {s : Nt} {x : Stn} (h : x.kind = 1) : (s.step x).2 = (s.send x.src x.dst x.at_ x.data).2 := by unfold Nt.step; rw [if_pos h]
theorem step_deliver {s : Nt} {x : Stn} (h : x.kind = 2) : (s.step x).2 = (s.deliver x.num).2 := by unfold Nt.step; rw [if_neg (by omega), if_pos h]
theorem step_drop {s : Nt} {x : Stn} (h : x.kind = 3) : (s.step x).2 = (s.deliver x.num).2 := by unfold Nt.step; rw [if_neg (by omega), if_neg (by omega), if_pos h]
theorem step_double {s : Nt} {x : Stn} (h : x.kind = 4) : (s.step x).2 = (s.double x.num).2 := by unfold Nt.step; rw [if_neg (by omega), if_neg (by omega), if_neg (by omega), if_pos h]
theorem step_alter {s : Nt} {x : Stn} (h : x.kind = 5) : (s.step x).2 = (s.alter x.num x.at_ x.data).2 := by unfold Nt.step; rw [if_neg (by omega), if_neg (by omega), if_neg (by omega), if_neg (by omega), if_pos h]
theorem step_cut {s : Nt} {x : Stn} (h : x.kind = 6) : (s.step x).2 = (s.cut x.num x.at_).2 := by unfold Nt.step; rw [if_neg (by omega), if_neg (by omega), if_neg (by omega), if_neg (by omega), if_neg (by omega), if_pos h]
theorem step_other {s : Nt} {x : Stn} (h : ¬ (1 ≤ x.kind ∧ x.kind ≤ 6)) : (s.step x).2 = s := by unfold Nt.step; rw [if_neg (by omega), if_neg (by omega), if_neg (by omega), if_neg (by omega), if_neg (by omega), if_neg (by omega)]
set_option maxRecDepth 100000 in
set_option maxHeartbeats 30000000 in
theorem Step20_any (p q : Nat) (s : Nt) (x : Stn) (G : Nat → Prop) (w : World) (h : Pair (Nob p s) (Rob q s) G w) (hG : ∀ k, w.heap.size ≤ k → G k) (hlast : s.last < 90000) (hx : StnOk w x) (hnil : x.dA = none → x.dc = 0) (hbk : ∀ W, Kept G w W → BytesAt W x.dA x.data) :
    Calls Try.prog 14 #[.pointer (some ⟨p, 0, none⟩), .pointer (some ⟨q, 0, none⟩), .agg x.cs] w (fun r w' => r = .returned (.bool true) ∧ Pair (Nob p (s.step x).2) (Rob q (s.step x).2) G w' ∧ Kept G w w') := by
  have hk0 : Kept (fun _ => False) w (w.alloc (.cells x.cs 32)) := (Kept.refl _ _).alloc _
  have HK0 := Lib.hid hk0
  have HB0 := Lib.hid (Box.new w 32 x.cs)
  have HP0 := Lib.hid ((Pair.ob (Nob.ob p s) (Rob.ob q s)).fresh ((Pair.ob (Nob.ob p s) (Rob.ob q s)).cut h) hk0)
  have HOKS := Lib.hid (show s.Ok from by obtain ⟨_, _, h1, _⟩ := h; exact Nw.ok h1)
  have HGS := Lib.hid hG
  have HBK := Lib.hid hbk
  have HBY := Lib.hid hx.by_
  have HXN := Lib.hid hx.none
  have hxl := hx.len
  have HNUM := Lib.hid hx.num
  have HAT := Lib.hid hx.at_
  have HNIL := Lib.hid hnil
  obtain ⟨s1, hs1⟩ : ∃ s1, (s.step x).2 = s1 := ⟨_, rfl⟩
  have HS1 := Lib.hid hs1
  rw [hs1]
  clear h hG hx hnil hbk hk0 hs1
  go_enter Try.func14, Try.ntmps14
  go_upto_region 1 with (fail)
  generalize w.alloc (.cells x.cs 32) = w0 at HK0 HB0 HP0 ⊢
  obtain ⟨X, hX⟩ : ∃ X, w.heap.size = X := ⟨_, rfl⟩
  have HWX := Lib.hid hX
  rw [hX] at HB0 HP0 ⊢
  clear hX
  have x5 : w0.cell? ⟨X, 5, none⟩ = some (.slice x.dA x.data.length x.dc) := (HB0.out.cell 5).trans rfl
  have HSRC := Lib.hid (show ∀ j u, (bys x.data)[j]? = some u → ∃ ad, x.dA = some ad ∧ w0.cell? (ad.add j) = some u from fun j u hj => by
    have hjn : j < x.data.length := by
      have := (List.getElem?_eq_some_iff.1 hj).1
      simpa [bys_len] using this
    obtain ⟨ad, e, h0⟩ := HBK.out w0 (HK0.out.more fun _ _ e => e.elim) j hjn
    exact ⟨ad, e, by rw [h0, ← bys_get x.data j hjn]; exact hj⟩)
  have HNZ := Lib.hid (show x.dA = none → x.data.length = 0 ∧ x.dc = 0 from fun e => ⟨by rw [HXN.out e]; rfl, HNIL.out e⟩)
  go_wp2_with (at_builtin; refine wpList_append_copy eltBytes rfl _ _ rfl rfl x.dA x.data.length x.dc (bys x.data) rfl HNZ.out (by rw [bys_len]; omega) HSRC.out (bys_one _) (by omega) ?_)
  intro B1 c1 w1 HO1 HK1
  have hs01 := HK1.out.size
  clear HSRC HNZ HNIL x5
  go_wp2_with (at_builtin; refine wpList_append_new eltBytes rfl _ _ rfl w0.heap.size _ x.data.length (bys x.data) rfl HO1.out 1 1 rfl rfl rfl (by omega) hs01 ?_)
  intro B c w2 HO2 HK2 _
  have hk12 : Kept (fun k => X < k) w1 w2 := HK2.out.more fun k _ e => by have := (HO1.out.lt k e).1; have := HB0.out.lt; omega
  have hk02 : Kept (fun _ => False) w0 w2 := HK1.out.trans HK2.out fun k hk e => by have := (HO1.out.lt k e).1; omega
  have HB2 := Lib.hid (HB0.out.kept hk02 id)
  have HK02 := Lib.hid (HK0.out.trans hk02 fun _ _ e => e)
  have HP2 := Lib.hid ((Pair.ob (Nob.ob p s) (Rob.ob q s)).fresh HP0.out hk02)
  have hor : w2.ownsRow w0.heap.size 5 1 (.slice B (x.data.length + 1) c) (x.data.length + 1) (bys (x.data ++ [171])) := by
    have := HO2.out
    rwa [show bys x.data ++ #[Value.int .u8 171].toList = bys (x.data ++ [171]) by simp [bys]] at this
  obtain ⟨gb, e1, e2, -, -⟩ := own_cells hor (by omega)
  subst e1
  have hcaps := own_caps hor
  have hgb := hor.lt gb e2
  have HX0 := Lib.hid (show X < w0.heap.size from HB0.out.lt)
  have HOB := Lib.hid hor
  obtain ⟨b1, hb1⟩ : ∃ b1, w2.heap.size = b1 := ⟨_, rfl⟩
  have HGB := Lib.hid (show X < gb ∧ gb < b1 from by have := HX0.out; omega)
  have HW2 := Lib.hid (Nat.le_of_eq hb1.symm)
  have hnc : (x.data.length : Int) ≤ (c : Int) := by omega
  have hn0 : (0 : Int) ≤ (x.data.length : Int) := by omega
  have x5 : w2.cell? ⟨X, 5, none⟩ = some (.slice x.dA x.data.length x.dc) := (HB2.out.cell 5).trans rfl
  have x0 : w2.cell? ⟨X, 0, none⟩ = some (.int .i64 x.kind) := (HB2.out.cell 0).trans rfl
  have HXK := Lib.hid (show ¬ ((G X ∧ X < X) ∨ b1 ≤ X) from fun e => by have := HGB.out; omega)
  have HBW := Lib.hid (show ∀ W, Kept (fun k => (G k ∧ k < X) ∨ b1 ≤ k) w2 W → Kept G w W from fun W hk => (HK02.out.more fun _ _ e => e.elim).trans hk fun k hk e => e.elim (fun e => e.1) fun e => HGS.out k (by have := HWX.out; have := HGB.out; omega))
  have HOW := Lib.hid (show ∀ W, Kept (fun k => (G k ∧ k < X) ∨ b1 ≤ k) w2 W → W.ownsRow w0.heap.size 5 1 (.slice (some ⟨gb, 0, none⟩) (x.data.length + 1) c) (x.data.length + 1) (bys (x.data ++ [171])) from fun W hk => hk.own HOB.out fun k e e2 => by
    have e9 : gb = k := by injection e
    have h1 := HGB.out
    have e2 : (G k ∧ k < X) ∨ b1 ≤ k := e2
    rcases e2 with e2 | e2
    · have h2 := e2.2; omega
    · omega)
  have HGV := Lib.hid (show ∀ W, Kept (fun k => (G k ∧ k < X) ∨ b1 ≤ k) w2 W → BytesAt W (some ⟨gb, 0, none⟩) x.data from fun W hk => by
    have ho := HOW.out W hk
    have hb : BytesAt W (some ⟨gb, 0, none⟩) (x.data ++ [171]) := BytesAt.of_own (show W.ownsRow w0.heap.size 5 1 (.slice (some ⟨gb, 0, none⟩) (x.data ++ [171]).length c) (x.data ++ [171]).length (bys (x.data ++ [171])) by rw [List.length_append]; exact ho)
    have h9 := hb.taken x.data.length
    rwa [List.take_left] at h9)
  clear hk12 hk02 hor hcaps hgb hb1 HO1 HK1 HO2 HK2 HB0 HK0 HP0 hs01 HOB e2
  go_upto_block 0 with (fail)
  go_cut [9] (fun v wx => v = .bool true ∧ Pair (Nob p s1) (Rob q s1) (fun k => (G k ∧ k < X) ∨ b1 ≤ k) wx ∧ Kept (fun k => (G k ∧ k < X) ∨ b1 ≤ k) w2 wx)
  case first =>
    have hcase : x.kind = 1 ∨ x.kind = 2 ∨ x.kind = 3 ∨ x.kind = 4 ∨ x.kind = 5 ∨ x.kind = 6 ∨ ¬ (1 ≤ x.kind ∧ x.kind ≤ 6) := by omega
    rcases hcase with hk | hk | hk | hk | hk | hk | hk
    · as_aux_lemma =>
      have e1 : (x.kind == 1) = true := beq_iff_eq.2 hk
      have HSTEP := fun h => step_send (s := s) (x := x) h
      have HZ := Lib.hid (show s1 = (s.send x.src x.dst x.at_ x.data).2 from by rw [← HS1.out]; exact HSTEP hk)
      obtain ⟨H, h1, h2, h3, h4⟩ := ((Pair.ob (Nob.ob p s) (Rob.ob q s)).more HP2.out (S := (fun k => (G k ∧ k < X) ∨ b1 ≤ k)) fun _ e => .inl e).left (Rob.ob _ _) (Nob.ob _ _) (fun j e => .inr (Nat.le_trans HW2.out e))
      have hop := Nw.send_ (f := x.src) (t := x.dst) (a := x.at_) (c := c) h1 h2 (by omega) (HGV.out w2 (Kept.refl _ _)) (fun e => by cases e) HBY.out hxl
      have HH4 := Lib.hid h4
      obtain ⟨z, hz⟩ : ∃ z, s.send x.src x.dst x.at_ x.data = z := ⟨_, rfl⟩
      have HZE := Lib.hid hz
      rw [hz] at hop HZ
      obtain ⟨⟨a1, a2⟩, z2⟩ := z
      simp only at hop HZ
      obtain rfl := HZ.out
      have m1 : (a1 == a1) = true := beq_one _
      have m2 : (a2 == a2) = true := beq_one _
      have y1 : w2.cell? ⟨X, 1, none⟩ = some (.int .i64 x.num) := (HB2.out.cell 1).trans rfl
      have y2 : w2.cell? ⟨X, 2, none⟩ = some (.int .i64 x.src) := (HB2.out.cell 2).trans rfl
      have y3 : w2.cell? ⟨X, 3, none⟩ = some (.int .i64 x.dst) := (HB2.out.cell 3).trans rfl
      have y4 : w2.cell? ⟨X, 4, none⟩ = some (.int .i64 x.at_) := (HB2.out.cell 4).trans rfl
      clear h1 h2 h3 h4 hz hk HZ
      go_wp2_with (fail)
      refine hop.mono ?_
      clear hop
      rintro r w3 ⟨rfl, hn, hkk⟩
      obtain ⟨hp, hkk⟩ := HH4.out _ _ (Nob.ob _ _) hn hkk
      have HP3 := Lib.hid hp
      have HK3 := Lib.hid hkk
      have HB3 := Lib.hid (HB2.out.kept hkk HXK.out)
      clear hn hp hkk HH4 y1 y2 y3 y4 x0 x5
      obtain ⟨H, h1, h2, h3, h4⟩ := HP3.out.right (Nob.ob _ _) (Rob.ob _ _) (fun j e => .inr (by have := HW2.out; have := HK3.out.size; omega))
      have hop := Rw.send_ (f := x.src) (t := x.dst) (a := x.at_) (c := x.dc) h1 h2 (by omega) (fun W hk => HBK.out W ((HBW.out w3 HK3.out).trans hk fun k hk e => (h3 k e).elim (fun e => e.1) fun e => HGS.out k (by have := HWX.out; have := HGB.out; omega))) HXN.out HBY.out hxl
      have HH4 := Lib.hid h4
      rw [HZE.out] at hop
      simp only at hop
      have y1 : w3.cell? ⟨X, 1, none⟩ = some (.int .i64 x.num) := (HB3.out.cell 1).trans rfl
      have y2 : w3.cell? ⟨X, 2, none⟩ = some (.int .i64 x.src) := (HB3.out.cell 2).trans rfl
      have y3 : w3.cell? ⟨X, 3, none⟩ = some (.int .i64 x.dst) := (HB3.out.cell 3).trans rfl
      have y4 : w3.cell? ⟨X, 4, none⟩ = some (.int .i64 x.at_) := (HB3.out.cell 4).trans rfl
      have y5 : w3.cell? ⟨X, 5, none⟩ = some (.slice x.dA x.data.length x.dc) := (HB3.out.cell 5).trans rfl
      clear h1 h2 h3 h4
      go_wp2_with (fail)
      refine hop.mono ?_
      clear hop
      rintro r w4 ⟨rfl, hn, hkk⟩
      obtain ⟨hp, hkk⟩ := HH4.out _ _ (Rob.ob _ _) hn hkk
      have HP4 := Lib.hid hp
      have HK4 := Lib.hid (HK3.out.trans hkk fun _ _ e => e)
      clear hn hp hkk HH4 y1 y2 y3 y4 y5
      go_wp2_with (fail)
      go_meet
      case rel => exact ⟨rfl, HP4.out, HK4.out⟩
    · as_aux_lemma =>
      have e1 : (x.kind == 1) = false := beq_eq_false_iff_ne.mpr (by omega)
      have e2 : (x.kind == 2) = true := beq_iff_eq.2 hk
      have HSTEP := fun h => step_deliver (s := s) (x := x) h
      have HZ := Lib.hid (show s1 = (s.deliver x.num).2 from by rw [← HS1.out]; exact HSTEP hk)
      obtain ⟨H, h1, h2, h3⟩ := HP2.out.left_in (Rob.ob _ _)
      have hop := Nw.deliver_ (n := x.num) h1 HNUM.out
      have HH3 := Lib.hid h3
      have hdl := deliver_len HOKS.out x.num
      obtain ⟨z, hz⟩ : ∃ z, s.deliver x.num = z := ⟨_, rfl⟩
      have HZE := Lib.hid hz
      rw [hz] at hop HZ hdl
      obtain ⟨⟨zc, a2⟩, z2⟩ := z
      simp only at hop HZ hdl
      obtain rfl := HZ.out
      have m2 : (a2 == a2) = true := beq_one _
      have y1 : w2.cell? ⟨X, 1, none⟩ = some (.int .i64 x.num) := (HB2.out.cell 1).trans rfl
      clear h1 h2 h3 hz hk HZ
      go_wp2_with (fail)
      refine hop.mono ?_
      clear hop
      rintro r w3 ⟨A3, c3, rfl, ho, hn, hkk⟩
      obtain ⟨hp, hkk⟩ := HH3.out (Nob p s1) _ hn hkk
      have HO3 := Lib.hid ho
      have HP3 := Lib.hid hp
      have HK3 := Lib.hid hkk
      have HN3 := Lib.hid (Box.new w3 44 zeroCpC)
      clear ho hn hp hkk HH3 y1 x0 x5
      go_wp2_with (refine wpList_store_box rfl 44 _ _ rfl w3.heap.size (cpC zc A3 c3) rfl rfl 44 zeroCpC HN3.out (size_cp.trans rfl) rfl (cpC_one _ _ _) ?_)
      intro w4 HB4 hk4
      have hk4' : Kept (fun _ => False) w3 w4 := ((Kept.refl _ w3).alloc _).trans hk4 fun j hj e => by omega
      have HO4 := Lib.hid (hk4'.own HO3.out fun _ _ => id)
      have HP4 := Lib.hid ((Pair.ob (Nob.ob _ _) (Rob.ob _ _)).fresh HP3.out hk4')
      have HK4 := Lib.hid (HK3.out.trans hk4' fun _ _ e => e.elim)
      have HY4 := Lib.hid (show b1 ≤ w3.heap.size from Nat.le_trans HW2.out HK3.out.size)
      have HTO := Lib.hid (show ∀ k, (Value.slice A3 zc.data.length c3).ownBlock = some k → b1 ≤ k ∧ k < w3.heap.size from fun k e => by have := HO3.out.lt k e; have := HW2.out; omega)
      obtain ⟨Y, hY⟩ : ∃ Y, w3.heap.size = Y := ⟨_, rfl⟩
      rw [hY] at HB4 HY4 HTO ⊢
      have HB4X := Lib.hid (HB2.out.kept (HK4.out.more (T := (fun k => (G k ∧ k < X) ∨ b1 ≤ k)) fun _ _ e => .inl e) HXK.out)
      have hYl := HB4.out.lt
      clear hk4 hk4' hY HN3 HO3 HP3 HK3
      obtain ⟨n4, hn4⟩ : ∃ n4, w4.heap.size = n4 := ⟨_, rfl⟩
      have HN4 := Lib.hid (Nat.le_of_eq hn4.symm)
      rw [hn4] at hYl
      clear hn4
      have HXK4 := Lib.hid (show ¬ ((G X ∧ X < X) ∨ n4 ≤ X) from fun e => by have := HGB.out; have := HY4.out; omega)
      have HYK4 := Lib.hid (show ¬ ((G Y ∧ Y < X) ∨ n4 ≤ Y) from fun e => by have := HGB.out; have := HY4.out; omega)
      obtain ⟨H, h1, h2, h3, h4⟩ := ((Pair.ob (Nob.ob _ _) (Rob.ob _ _)).more HP4.out (S := fun k => (G k ∧ k < X) ∨ n4 ≤ k) fun _ e => .inl e).right (Nob.ob _ _) (Rob.ob _ _) (fun j e => .inr (Nat.le_trans HN4.out e))
      have hop := Rw.deliver_ (n := x.num) h1 h2
      have HH4 := Lib.hid h4
      rw [HZE.out] at hop
      simp only at hop
      have y1 : w4.cell? ⟨X, 1, none⟩ = some (.int .i64 x.num) := (HB4X.out.cell 1).trans rfl
      clear h1 h2 h3 h4
      go_wp2_with (fail)
      refine hop.mono ?_
      clear hop
      rintro r w5 ⟨A5, c5, rfl, ho, hn, hkk⟩
      obtain ⟨hp, hkk⟩ := HH4.out _ _ (Rob.ob _ _) hn hkk
      have HO5 := Lib.hid ho
      have HP5 := Lib.hid hp
      have HK5 := Lib.hid hkk
      have HB5 := Lib.hid (HB4.out.kept hkk HYK4.out)
      have HOT5 := Lib.hid (hkk.own HO4.out fun k e e2 => by have := HTO.out k e; have := HGB.out; omega)
      have HN5 := Lib.hid (Box.new w5 44 zeroCpC)
      clear ho hn hp hkk HH4 y1 HB4X HP4 HO4 HB4
      go_wp2_with (refine wpList_store_box rfl 44 _ _ rfl w5.heap.size (cpC zc A5 c5) rfl rfl 44 zeroCpC HN5.out (size_cp.trans rfl) rfl (cpC_one _ _ _) ?_)
      intro w6 HB6 hk6
      have hk6' : Kept (fun _ => False) w5 w6 := ((Kept.refl _ w5).alloc _).trans hk6 fun j hj e => by omega
      have HB5' := Lib.hid (HB5.out.kept hk6' id)
      have HO6 := Lib.hid (hk6'.own HO5.out fun _ _ => id)
      have HOT6 := Lib.hid (hk6'.own HOT5.out fun _ _ => id)
      have HP6 := Lib.hid ((Pair.ob (Nob.ob _ _) (Rob.ob _ _)).fresh HP5.out hk6')
      have HK6 := Lib.hid (HK5.out.trans hk6' fun _ _ e => e.elim)
      obtain ⟨Z, hZ⟩ : ∃ Z, w5.heap.size = Z := ⟨_, rfl⟩
      rw [hZ] at HB6 ⊢
      clear hk6 hk6' hZ HN5 HO5 HP5 HK5 HB5 HOT5
      go_wp2_with (first | (refine load_cp_box rfl _ rfl Y rfl (cpC zc A3 c3) rfl _ HB5'.out ?_) | (refine load_cp_box rfl _ rfl Z rfl (cpC zc A5 c5) rfl _ HB6.out ?_))
      refine (Same20_any zc zc A3 A5 c3 c5 w6 (BytesAt.of_own HOT6.out) (BytesAt.of_own HO6.out) (by omega)).mono ?_
      rintro r w7 ⟨bb, rfl, hbb, hk⟩
      obtain rfl : bb = true := hbb.2 (Cp.same_tell.2 rfl)
      have HB7 := Lib.hid (HB5'.out.kept hk id)
      have HOT7 := Lib.hid (hk.own HOT6.out fun _ _ => id)
      have HP7 := Lib.hid ((Pair.ob (Nob.ob _ _) (Rob.ob _ _)).fresh HP6.out hk)
      have HK7 := Lib.hid ((HK4.out.more (T := (fun k => (G k ∧ k < X) ∨ b1 ≤ k)) fun _ _ e => .inl e).trans (HK6.out.trans hk fun _ _ e => e.elim) fun k _ e => e.elim .inl fun e => .inr (by have := HY4.out; omega))
      clear hk hbb HB5' HB6 HO6 HOT6 HP6 HK6
      go_wp2_with (fail)
      go_loopw [18] (fun i wr => ∃ (k : Nat) (l' : List Int), i = .int .i64 k ∧ k ≤ zc.data.length ∧ l'.length = zc.data.length ∧ wr.ownsRow w2.heap.size 5 1 (.slice A3 zc.data.length c3) zc.data.length (bys l') ∧ Box wr Y 44 (cpC zc A3 c3) ∧ Kept (fun k => (Value.slice A3 zc.data.length c3).ownBlock = some k) w7 wr) (fun i _ => zc.data.length - (intOf i).toNat)
      case atStart => exact ⟨0, zc.data, rfl, Nat.zero_le _, rfl, HOT7.out, HB7.out, Kept.refl _ _⟩
      case round =>
        obtain ⟨k, l2, rfl, hk, hl2, ho, hb, hkk⟩ := hrel
        have HOL := Lib.hid ho
        have HBL := Lib.hid hb
        have HKL := Lib.hid hkk
        have HL2 := Lib.hid hl2
        have t3 : wr.cell? ⟨Y, 3, none⟩ = some (.slice A3 zc.data.length c3) := (hb.cell 3).trans rfl
        clear ho hb hkk hl2 HOT7 HB7
        by_cases hlt : k < zc.data.length
        · obtain ⟨ga, e1, e2, hdc, hfz⟩ := own_cells HOL.out (by omega)
          subst e1
          obtain ⟨ov, hov⟩ : ∃ ov, l2[k]'(by rw [HL2.out]; exact hlt) = ov := ⟨_, rfl⟩
          have v0 : wr.cell? ⟨ga, k, none⟩ = some (.int .u8 ov) := hdc k _ (by rw [← hov]; simp [bys])
          have fz : wr.frozen? ⟨ga, k, none⟩ = false := hfz k
          have ho6 := own_put HOL.out k (.int .u8 88)
          have HO8 := Lib.hid (show (wr.setCell ⟨ga, k, none⟩ (.int .u8 88)).ownsRow w2.heap.size 5 1 (.slice (some ⟨ga, 0, none⟩) zc.data.length c3) zc.data.length (bys (l2.set k 88)) from by
            rw [show bys (l2.set k 88) = (bys l2).set k (.int .u8 88) by simp [bys, List.map_set]]
            exact ho6)
          have hk6 := (Kept.refl (fun k => (Value.slice (some ⟨ga, 0, none⟩) zc.data.length c3).ownBlock = some k) wr).at (g := ga) k (.int .u8 88) (.inl rfl)
          have HB8 := Lib.hid (HBL.out.kept hk6 fun e => by have := HTO.out Y e; omega)
          have HK8 := Lib.hid (HKL.out.trans hk6 fun _ _ e => e)
          have HL8 := Lib.hid (show (l2.set k 88).length = zc.data.length by rw [List.length_set]; exact HL2.out)
          have hk0 : (0 : Int) ≤ (k : Int) := by omega
          have hki : (k : Int) < (zc.data.length : Int) := by omega
          clear hdc hfz hov ho6 hk6 HOL HBL HKL e2
          go_wp2_with (fail)
          go_roundw
          case rel => exact ⟨k + 1, l2.set k 88, by go_num, by omega, HL8.out, HO8.out, HB8.out, HK8.out⟩
          case measure => simp [intOf]; omega
        · have HP9 := Lib.hid ((Pair.ob (Nob.ob p s1) (Rob.ob q s1)).more ((Pair.ob (Nob.ob p s1) (Rob.ob q s1)).kept HP7.out HKL.out fun k e e2 => by have := HTO.out k e2; have := HGB.out; omega) (S := (fun k => (G k ∧ k < X) ∨ b1 ≤ k)) fun k e => e.imp id fun e => by have := HY4.out; omega)
          have HK9 := Lib.hid (HK7.out.trans HKL.out fun k _ e => .inr (HTO.out k e).1)
          clear HP7 HK7 HKL HOL HBL
          obtain rfl : k = zc.data.length := by omega
          go_wp2_with (fail)
          go_meet
          case rel => exact ⟨rfl, HP9.out, HK9.out⟩
    · as_aux_lemma =>
      have e1 : (x.kind == 1) = false := beq_eq_false_iff_ne.mpr (by omega)
      have e2 : (x.kind == 2) = false := beq_eq_false_iff_ne.mpr (by omega)
      have e3 : (x.kind == 3) = true := beq_iff_eq.2 hk
      have HSTEP := fun h => step_drop (s := s) (x := x) h
      have HZ := Lib.hid (show s1 = (s.deliver x.num).2 from by rw [← HS1.out]; exact HSTEP hk)
      obtain ⟨H, h1, h2, h3⟩ := HP2.out.left_in (Rob.ob _ _)
      have hop := Nw.drop_ (n := x.num) h1 HNUM.out
      have HH3 := Lib.hid h3
      have hdl := deliver_len HOKS.out x.num
      obtain ⟨z, hz⟩ : ∃ z, s.deliver x.num = z := ⟨_, rfl⟩
      have HZE := Lib.hid hz
      rw [hz] at hop HZ hdl
      obtain ⟨⟨zc, a2⟩, z2⟩ := z
      simp only at hop HZ hdl
      obtain rfl := HZ.out
      have m2 : (a2 == a2) = true := beq_one _
      have y1 : w2.cell? ⟨X, 1, none⟩ = some (.int .i64 x.num) := (HB2.out.cell 1).trans rfl
      clear h1 h2 h3 hz hk HZ
      go_wp2_with (fail)
      refine hop.mono ?_
      clear hop
      rintro r w3 ⟨A3, c3, rfl, ho, hn, hkk⟩
      obtain ⟨hp, hkk⟩ := HH3.out (Nob p s1) _ hn hkk
      have HO3 := Lib.hid ho
      have HP3 := Lib.hid hp
      have HK3 := Lib.hid hkk
      have HN3 := Lib.hid (Box.new w3 44 zeroCpC)
      clear ho hn hp hkk HH3 y1 x0 x5
      go_wp2_with (refine wpList_store_box rfl 44 _ _ rfl w3.heap.size (cpC zc A3 c3) rfl rfl 44 zeroCpC HN3.out (size_cp.trans rfl) rfl (cpC_one _ _ _) ?_)
      intro w4 HB4 hk4
      have hk4' : Kept (fun _ => False) w3 w4 := ((Kept.refl _ w3).alloc _).trans hk4 fun j hj e => by omega
      have HO4 := Lib.hid (hk4'.own HO3.out fun _ _ => id)
      have HP4 := Lib.hid ((Pair.ob (Nob.ob _ _) (Rob.ob _ _)).fresh HP3.out hk4')
      have HK4 := Lib.hid (HK3.out.trans hk4' fun _ _ e => e.elim)
      have HY4 := Lib.hid (show b1 ≤ w3.heap.size from Nat.le_trans HW2.out HK3.out.size)
      have HTO := Lib.hid (show ∀ k, (Value.slice A3 zc.data.length c3).ownBlock = some k → b1 ≤ k ∧ k < w3.heap.size from fun k e => by have := HO3.out.lt k e; have := HW2.out; omega)
      obtain ⟨Y, hY⟩ : ∃ Y, w3.heap.size = Y := ⟨_, rfl⟩
      rw [hY] at HB4 HY4 HTO ⊢
      have HB4X := Lib.hid (HB2.out.kept (HK4.out.more (T := (fun k => (G k ∧ k < X) ∨ b1 ≤ k)) fun _ _ e => .inl e) HXK.out)
      have hYl := HB4.out.lt
      clear hk4 hk4' hY HN3 HO3 HP3 HK3
      obtain ⟨n4, hn4⟩ : ∃ n4, w4.heap.size = n4 := ⟨_, rfl⟩
      have HN4 := Lib.hid (Nat.le_of_eq hn4.symm)
      rw [hn4] at hYl
      clear hn4
      have HXK4 := Lib.hid (show ¬ ((G X ∧ X < X) ∨ n4 ≤ X) from fun e => by have := HGB.out; have := HY4.out; omega)
      have HYK4 := Lib.hid (show ¬ ((G Y ∧ Y < X) ∨ n4 ≤ Y) from fun e => by have := HGB.out; have := HY4.out; omega)
      obtain ⟨H, h1, h2, h3, h4⟩ := ((Pair.ob (Nob.ob _ _) (Rob.ob _ _)).more HP4.out (S := fun k => (G k ∧ k < X) ∨ n4 ≤ k) fun _ e => .inl e).right (Nob.ob _ _) (Rob.ob _ _) (fun j e => .inr (Nat.le_trans HN4.out e))
      have hop := Rw.drop_ (n := x.num) h1 h2
      have HH4 := Lib.hid h4
      rw [HZE.out] at hop
      simp only at hop
      have y1 : w4.cell? ⟨X, 1, none⟩ = some (.int .i64 x.num) := (HB4X.out.cell 1).trans rfl
      clear h1 h2 h3 h4
      go_wp2_with (fail)
      refine hop.mono ?_
      clear hop
      rintro r w5 ⟨A5, c5, rfl, ho, hn, hkk⟩
      obtain ⟨hp, hkk⟩ := HH4.out _ _ (Rob.ob _ _) hn hkk
      have HO5 := Lib.hid ho
      have HP5 := Lib.hid hp
      have HK5 := Lib.hid hkk
      have HB5 := Lib.hid (HB4.out.kept hkk HYK4.out)
      have HOT5 := Lib.hid (hkk.own HO4.out fun k e e2 => by have := HTO.out k e; have := HGB.out; omega)
      have HN5 := Lib.hid (Box.new w5 44 zeroCpC)
      clear ho hn hp hkk HH4 y1 HB4X HP4 HO4 HB4
      go_wp2_with (refine wpList_store_box rfl 44 _ _ rfl w5.heap.size (cpC zc A5 c5) rfl rfl 44 zeroCpC HN5.out (size_cp.trans rfl) rfl (cpC_one _ _ _) ?_)
      intro w6 HB6 hk6
      have hk6' : Kept (fun _ => False) w5 w6 := ((Kept.refl _ w5).alloc _).trans hk6 fun j hj e => by omega
      have HB5' := Lib.hid (HB5.out.kept hk6' id)
      have HO6 := Lib.hid (hk6'.own HO5.out fun _ _ => id)
      have HOT6 := Lib.hid (hk6'.own HOT5.out fun _ _ => id)
      have HP6 := Lib.hid ((Pair.ob (Nob.ob _ _) (Rob.ob _ _)).fresh HP5.out hk6')
      have HK6 := Lib.hid (HK5.out.trans hk6' fun _ _ e => e.elim)
      obtain ⟨Z, hZ⟩ : ∃ Z, w5.heap.size = Z := ⟨_, rfl⟩
      rw [hZ] at HB6 ⊢
      clear hk6 hk6' hZ HN5 HO5 HP5 HK5 HB5 HOT5
      go_wp2_with (first | (refine load_cp_box rfl _ rfl Y rfl (cpC zc A3 c3) rfl _ HB5'.out ?_) | (refine load_cp_box rfl _ rfl Z rfl (cpC zc A5 c5) rfl _ HB6.out ?_))
      refine (Same20_any zc zc A3 A5 c3 c5 w6 (BytesAt.of_own HOT6.out) (BytesAt.of_own HO6.out) (by omega)).mono ?_
      rintro r w7 ⟨bb, rfl, hbb, hk⟩
      obtain rfl : bb = true := hbb.2 (Cp.same_tell.2 rfl)
      have HB7 := Lib.hid (HB5'.out.kept hk id)
      have HOT7 := Lib.hid (hk.own HOT6.out fun _ _ => id)
      have HP7 := Lib.hid ((Pair.ob (Nob.ob _ _) (Rob.ob _ _)).fresh HP6.out hk)
      have HK7 := Lib.hid ((HK4.out.more (T := (fun k => (G k ∧ k < X) ∨ b1 ≤ k)) fun _ _ e => .inl e).trans (HK6.out.trans hk fun _ _ e => e.elim) fun k _ e => e.elim .inl fun e => .inr (by have := HY4.out; omega))
      clear hk hbb HB5' HB6 HO6 HOT6 HP6 HK6
      go_wp2_with (fail)
      go_loopw [23] (fun i wr => ∃ (k : Nat) (l' : List Int), i = .int .i64 k ∧ k ≤ zc.data.length ∧ l'.length = zc.data.length ∧ wr.ownsRow w2.heap.size 5 1 (.slice A3 zc.data.length c3) zc.data.length (bys l') ∧ Box wr Y 44 (cpC zc A3 c3) ∧ Kept (fun k => (Value.slice A3 zc.data.length c3).ownBlock = some k) w7 wr) (fun i _ => zc.data.length - (intOf i).toNat)
      case atStart => exact ⟨0, zc.data, rfl, Nat.zero_le _, rfl, HOT7.out, HB7.out, Kept.refl _ _⟩
      case round =>
        obtain ⟨k, l2, rfl, hk, hl2, ho, hb, hkk⟩ := hrel
        have HOL := Lib.hid ho
        have HBL := Lib.hid hb
        have HKL := Lib.hid hkk
        have HL2 := Lib.hid hl2
        have t3 : wr.cell? ⟨Y, 3, none⟩ = some (.slice A3 zc.data.length c3) := (hb.cell 3).trans rfl
        clear ho hb hkk hl2 HOT7 HB7
        by_cases hlt : k < zc.data.length
        · obtain ⟨ga, e1, e2, hdc, hfz⟩ := own_cells HOL.out (by omega)
          subst e1
          obtain ⟨ov, hov⟩ : ∃ ov, l2[k]'(by rw [HL2.out]; exact hlt) = ov := ⟨_, rfl⟩
          have v0 : wr.cell? ⟨ga, k, none⟩ = some (.int .u8 ov) := hdc k _ (by rw [← hov]; simp [bys])
          have fz : wr.frozen? ⟨ga, k, none⟩ = false := hfz k
          have ho6 := own_put HOL.out k (.int .u8 89)
          have HO8 := Lib.hid (show (wr.setCell ⟨ga, k, none⟩ (.int .u8 89)).ownsRow w2.heap.size 5 1 (.slice (some ⟨ga, 0, none⟩) zc.data.length c3) zc.data.length (bys (l2.set k 89)) from by
            rw [show bys (l2.set k 89) = (bys l2).set k (.int .u8 89) by simp [bys, List.map_set]]
            exact ho6)
          have hk6 := (Kept.refl (fun k => (Value.slice (some ⟨ga, 0, none⟩) zc.data.length c3).ownBlock = some k) wr).at (g := ga) k (.int .u8 89) (.inl rfl)
          have HB8 := Lib.hid (HBL.out.kept hk6 fun e => by have := HTO.out Y e; omega)
          have HK8 := Lib.hid (HKL.out.trans hk6 fun _ _ e => e)
          have HL8 := Lib.hid (show (l2.set k 89).length = zc.data.length by rw [List.length_set]; exact HL2.out)
          have hk0 : (0 : Int) ≤ (k : Int) := by omega
          have hki : (k : Int) < (zc.data.length : Int) := by omega
          clear hdc hfz hov ho6 hk6 HOL HBL HKL e2
          go_wp2_with (fail)
          go_roundw
          case rel => exact ⟨k + 1, l2.set k 89, by go_num, by omega, HL8.out, HO8.out, HB8.out, HK8.out⟩
          case measure => simp [intOf]; omega
        · have HP9 := Lib.hid ((Pair.ob (Nob.ob p s1) (Rob.ob q s1)).more ((Pair.ob (Nob.ob p s1) (Rob.ob q s1)).kept HP7.out HKL.out fun k e e2 => by have := HTO.out k e2; have := HGB.out; omega) (S := (fun k => (G k ∧ k < X) ∨ b1 ≤ k)) fun k e => e.imp id fun e => by have := HY4.out; omega)
          have HK9 := Lib.hid (HK7.out.trans HKL.out fun k _ e => .inr (HTO.out k e).1)
          clear HP7 HK7 HKL HOL HBL
          obtain rfl : k = zc.data.length := by omega
          go_wp2_with (fail)
          go_meet
          case rel => exact ⟨rfl, HP9.out, HK9.out⟩
    · as_aux_lemma =>
      have e1 : (x.kind == 1) = false := beq_eq_false_iff_ne.mpr (by omega)
      have e2 : (x.kind == 2) = false := beq_eq_false_iff_ne.mpr (by omega)
      have e3 : (x.kind == 3) = false := beq_eq_false_iff_ne.mpr (by omega)
      have e4 : (x.kind == 4) = true := beq_iff_eq.2 hk
      have HSTEP := fun h => step_double (s := s) (x := x) h
      have HZ := Lib.hid (show s1 = (s.double x.num).2 from by rw [← HS1.out]; exact HSTEP hk)
      obtain ⟨H, h1, h2, h3, h4⟩ := ((Pair.ob (Nob.ob p s) (Rob.ob q s)).more HP2.out (S := (fun k => (G k ∧ k < X) ∨ b1 ≤ k)) fun _ e => .inl e).left (Rob.ob _ _) (Nob.ob _ _) (fun j e => .inr (Nat.le_trans HW2.out e))
      have hop := Nw.double_ (n := x.num) h1 h2 (by omega) HNUM.out
      have HH4 := Lib.hid h4
      obtain ⟨z, hz⟩ : ∃ z, s.double x.num = z := ⟨_, rfl⟩
      have HZE := Lib.hid hz
      rw [hz] at hop HZ
      obtain ⟨⟨a1, a2⟩, z2⟩ := z
      simp only at hop HZ
      obtain rfl := HZ.out
      have m1 : (a1 == a1) = true := beq_one _
      have m2 : (a2 == a2) = true := beq_one _
      have y1 : w2.cell? ⟨X, 1, none⟩ = some (.int .i64 x.num) := (HB2.out.cell 1).trans rfl
      have y2 : w2.cell? ⟨X, 2, none⟩ = some (.int .i64 x.src) := (HB2.out.cell 2).trans rfl
      have y3 : w2.cell? ⟨X, 3, none⟩ = some (.int .i64 x.dst) := (HB2.out.cell 3).trans rfl
      have y4 : w2.cell? ⟨X, 4, none⟩ = some (.int .i64 x.at_) := (HB2.out.cell 4).trans rfl
      clear h1 h2 h3 h4 hz hk HZ
      go_wp2_with (fail)
      refine hop.mono ?_
      clear hop
      rintro r w3 ⟨rfl, hn, hkk⟩
      obtain ⟨hp, hkk⟩ := HH4.out _ _ (Nob.ob _ _) hn hkk
      have HP3 := Lib.hid hp
      have HK3 := Lib.hid hkk
      have HB3 := Lib.hid (HB2.out.kept hkk HXK.out)
      clear hn hp hkk HH4 y1 y2 y3 y4 x0 x5
      obtain ⟨H, h1, h2, h3, h4⟩ := HP3.out.right (Nob.ob _ _) (Rob.ob _ _) (fun j e => .inr (by have := HW2.out; have := HK3.out.size; omega))
      have hop := Rw.double_ (n := x.num) h1 h2 (by omega)
      have HH4 := Lib.hid h4
      rw [HZE.out] at hop
      simp only at hop
      have y1 : w3.cell? ⟨X, 1, none⟩ = some (.int .i64 x.num) := (HB3.out.cell 1).trans rfl
      have y2 : w3.cell? ⟨X, 2, none⟩ = some (.int .i64 x.src) := (HB3.out.cell 2).trans rfl
      have y3 : w3.cell? ⟨X, 3, none⟩ = some (.int .i64 x.dst) := (HB3.out.cell 3).trans rfl
      have y4 : w3.cell? ⟨X, 4, none⟩ = some (.int .i64 x.at_) := (HB3.out.cell 4).trans rfl
      have y5 : w3.cell? ⟨X, 5, none⟩ = some (.slice x.dA x.data.length x.dc) := (HB3.out.cell 5).trans rfl
      clear h1 h2 h3 h4
      go_wp2_with (fail)
      refine hop.mono ?_
      clear hop
      rintro r w4 ⟨rfl, hn, hkk⟩
      obtain ⟨hp, hkk⟩ := HH4.out _ _ (Rob.ob _ _) hn hkk
      have HP4 := Lib.hid hp
      have HK4 := Lib.hid (HK3.out.trans hkk fun _ _ e => e)
      clear hn hp hkk HH4 y1 y2 y3 y4 y5
      go_wp2_with (fail)
      go_meet
      case rel => exact ⟨rfl, HP4.out, HK4.out⟩
    · as_aux_lemma =>
      have e1 : (x.kind == 1) = false := beq_eq_false_iff_ne.mpr (by omega)
      have e2 : (x.kind == 2) = false := beq_eq_false_iff_ne.mpr (by omega)
      have e3 : (x.kind == 3) = false := beq_eq_false_iff_ne.mpr (by omega)
      have e4 : (x.kind == 4) = false := beq_eq_false_iff_ne.mpr (by omega)
      have e5 : (x.kind == 5) = true := beq_iff_eq.2 hk
      have HSTEP := fun h => step_alter (s := s) (x := x) h
      have HZ := Lib.hid (show s1 = (s.alter x.num x.at_ x.data).2 from by rw [← HS1.out]; exact HSTEP hk)
      obtain ⟨z, hz⟩ : ∃ z, s.alter x.num x.at_ x.data = z := ⟨_, rfl⟩
      have HZE := Lib.hid hz
      rw [hz] at HZ
      obtain ⟨a1, z2⟩ := z
      simp only at HZ
      obtain rfl := HZ.out
      have m1 : (a1 == a1) = true := beq_one _
      clear hz hk HZ x0 x5
      go_wp2_with (fail)
      refine wp_region_held_drew (S := fun Wz => Kept (fun k => (G k ∧ k < X) ∨ b1 ≤ k) w2.drew Wz) (by kernel_rfl) (Kept.refl _ _) fun hS => ?_
      have hkd : Kept (fun _ => False) w2 w2.drew := (Kept.refl _ _).drew
      have HBD := Lib.hid (HB2.out.kept hkd id)
      have HPD := Lib.hid ((Pair.ob (Nob.ob p s) (Rob.ob q s)).more ((Pair.ob (Nob.ob p s) (Rob.ob q s)).fresh HP2.out hkd) (S := (fun k => (G k ∧ k < X) ∨ b1 ≤ k)) fun _ e => .inl e)
      have HKD := Lib.hid (show ∀ W, Kept (fun k => (G k ∧ k < X) ∨ b1 ≤ k) w2.drew W → Kept (fun k => (G k ∧ k < X) ∨ b1 ≤ k) w2 W from fun W hk => (hkd.more fun _ _ e => e.elim).trans hk fun _ _ e => e)
      have HSZ := Lib.hid (show b1 ≤ w2.drew.heap.size from HW2.out)
      clear hkd
      generalize w2.drew = V at HBD HPD HKD HSZ hS ⊢
      refine held_takeTo 174 (i := 0) (v := .pointer (some ⟨p, 0, none⟩)) rfl rfl (by kernel_rfl) (by kernel_rfl) (by kernel_rfl) (fun _ _ _ h => h) rfl hS (fun Wz hW => by go_simp) ?_
      simp only [List.setIfInBounds_toArray, List.set_cons_zero, List.set_cons_succ]
      refine held_takeTo 175 (i := 1) (v := .pointer (some ⟨X, 1, none⟩)) rfl rfl (by kernel_rfl) (by kernel_rfl) (by kernel_rfl) (fun _ _ _ h => h) rfl hS (fun Wz hW => by go_simp) ?_
      simp only [List.setIfInBounds_toArray, List.set_cons_zero, List.set_cons_succ]
      refine held_takeTo 176 (i := 2) (v := .int .i64 x.num) rfl rfl (by kernel_rfl) (by kernel_rfl) (by kernel_rfl) (fun _ _ _ h => h) rfl hS (fun Wz hW => by (have hc : Wz.cell? ⟨X, 1, none⟩ = some (.int .i64 x.num) := ((HBD.out.kept hW HXK.out).cell 1).trans rfl; go_simp)) ?_
      simp only [List.setIfInBounds_toArray, List.set_cons_zero, List.set_cons_succ]
      refine held_takeTo 177 (i := 3) (v := .pointer (some ⟨X, 4, none⟩)) rfl rfl (by kernel_rfl) (by kernel_rfl) (by kernel_rfl) (fun _ _ _ h => h) rfl hS (fun Wz hW => by go_simp) ?_
      simp only [List.setIfInBounds_toArray, List.set_cons_zero, List.set_cons_succ]
      refine held_takeTo 178 (i := 4) (v := .int .i64 x.at_) rfl rfl (by kernel_rfl) (by kernel_rfl) (by kernel_rfl) (fun _ _ _ h => h) rfl hS (fun Wz hW => by (have hc : Wz.cell? ⟨X, 4, none⟩ = some (.int .i64 x.at_) := ((HBD.out.kept hW HXK.out).cell 4).trans rfl; go_simp)) ?_
      simp only [List.setIfInBounds_toArray, List.set_cons_zero, List.set_cons_succ]
      refine held_takeTo 179 (i := 5) (v := .slice (some ⟨gb, 0, none⟩) x.data.length c) rfl rfl (by kernel_rfl) (by kernel_rfl) (by kernel_rfl) (fun _ _ _ h => h) rfl hS (fun Wz hW => by go_simp) ?_
      simp only [List.setIfInBounds_toArray, List.set_cons_zero, List.set_cons_succ]
      refine held_takeTo 181 (i := 7) (v := .pointer (some ⟨q, 0, none⟩)) rfl rfl (by kernel_rfl) (by kernel_rfl) (by kernel_rfl) (fun _ _ _ h => h) rfl hS (fun Wz hW => by go_simp) ?_
      simp only [List.setIfInBounds_toArray, List.set_cons_zero, List.set_cons_succ]
      refine held_takeTo 182 (i := 8) (v := .pointer (some ⟨X, 1, none⟩)) rfl rfl (by kernel_rfl) (by kernel_rfl) (by kernel_rfl) (fun _ _ _ h => h) rfl hS (fun Wz hW => by go_simp) ?_
      simp only [List.setIfInBounds_toArray, List.set_cons_zero, List.set_cons_succ]
      refine held_takeTo 183 (i := 9) (v := .int .i64 x.num) rfl rfl (by kernel_rfl) (by kernel_rfl) (by kernel_rfl) (fun _ _ _ h => h) rfl hS (fun Wz hW => by (have hc : Wz.cell? ⟨X, 1, none⟩ = some (.int .i64 x.num) := ((HBD.out.kept hW HXK.out).cell 1).trans rfl; go_simp)) ?_
      simp only [List.setIfInBounds_toArray, List.set_cons_zero, List.set_cons_succ]
      refine held_takeTo 184 (i := 10) (v := .pointer (some ⟨X, 4, none⟩)) rfl rfl (by kernel_rfl) (by kernel_rfl) (by kernel_rfl) (fun _ _ _ h => h) rfl hS (fun Wz hW => by go_simp) ?_
      simp only [List.setIfInBounds_toArray, List.set_cons_zero, List.set_cons_succ]
      refine held_takeTo 185 (i := 11) (v := .int .i64 x.at_) rfl rfl (by kernel_rfl) (by kernel_rfl) (by kernel_rfl) (fun _ _ _ h => h) rfl hS (fun Wz hW => by (have hc : Wz.cell? ⟨X, 4, none⟩ = some (.int .i64 x.at_) := ((HBD.out.kept hW HXK.out).cell 4).trans rfl; go_simp)) ?_
      simp only [List.setIfInBounds_toArray, List.set_cons_zero, List.set_cons_succ]
      refine held_takeTo 186 (i := 12) (v := .pointer (some ⟨X, 5, none⟩)) rfl rfl (by kernel_rfl) (by kernel_rfl) (by kernel_rfl) (fun _ _ _ h => h) rfl hS (fun Wz hW => by go_simp) ?_
      simp only [List.setIfInBounds_toArray, List.set_cons_zero, List.set_cons_succ]
      refine held_takeTo 187 (i := 13) (v := .slice x.dA x.data.length x.dc) rfl rfl (by kernel_rfl) (by kernel_rfl) (by kernel_rfl) (fun _ _ _ h => h) rfl hS (fun Wz hW => by (have hc : Wz.cell? ⟨X, 5, none⟩ = some (.slice x.dA x.data.length x.dc) := ((HBD.out.kept hW HXK.out).cell 5).trans rfl; go_simp)) ?_
      simp only [List.setIfInBounds_toArray, List.set_cons_zero, List.set_cons_succ]
      refine held_one (i := 6) (by kernel_rfl) rfl fun K hK => ?_
      obtain ⟨H, h1, h2, h3, h4⟩ := HPD.out.left (Rob.ob _ _) (Nob.ob _ _) (fun j e => .inr (Nat.le_trans HSZ.out e))
      have hop := Nw.alter_ (n := x.num) (a := x.at_) (c := c) h1 h2 HNUM.out HAT.out (HGV.out V (HKD.out V hS)) HBY.out hxl
      have HH4 := Lib.hid h4
      rw [HZE.out] at hop
      simp only at hop
      clear h1 h2 h3 h4
      go_wp2_with (fail)
      refine hop.mono ?_
      clear hop
      rintro r w3 ⟨rfl, hn, hkk⟩
      obtain ⟨hp, hkk⟩ := HH4.out _ _ (Nob.ob _ _) hn hkk
      have HP3 := Lib.hid hp
      have hS3 := hS.trans hkk fun _ _ e => e
      clear hn hp hkk HH4 HPD
      go_wp2_with (fail)
      refine hK.out _ _ hS3 fun _ => ?_
      clear hK K hS
      refine held_one (i := 14) (by kernel_rfl) rfl fun K hK => ?_
      obtain ⟨H, h1, h2, h3, h4⟩ := HP3.out.right (Nob.ob _ _) (Rob.ob _ _) (fun j e => .inr (by have := HSZ.out; have := hS3.size; omega))
      have hop := Rw.alter_ (n := x.num) (a := x.at_) (c := x.dc) h1 h2 (HBK.out w3 (HBW.out w3 (HKD.out w3 hS3))) HBY.out hxl
      have HH4 := Lib.hid h4
      rw [HZE.out] at hop
      simp only at hop
      clear h1 h2 h3 h4
      go_wp2_with (fail)
      refine hop.mono ?_
      clear hop
      rintro r w4 ⟨rfl, hn, hkk⟩
      obtain ⟨hp, hkk⟩ := HH4.out _ _ (Rob.ob _ _) hn hkk
      have HP4 := Lib.hid hp
      have hS4 := hS3.trans hkk fun _ _ e => e
      clear hn hp hkk HH4 HP3
      go_wp2_with (fail)
      refine hK.out _ _ hS4 fun _ => ?_
      clear hK K hS3
      refine held_one (i := 15) (by kernel_rfl) rfl fun K hK => ?_
      go_wp2_with (fail)
      refine hK.out _ _ hS4 fun _ => ?_
      clear hK K
      refine held_one (i := 16) (by kernel_rfl) rfl fun K hK => ?_
      go_wp2_with (fail)
      refine hK.out _ _ hS4 fun _ => ?_
      clear hK K
      refine wpAnyH_done (by kernel_rfl) ?_ _
      have HK4 := Lib.hid (HKD.out _ hS4)
      clear hS4
      go_wp2_with (fail)
      go_meet
      case rel => exact ⟨rfl, HP4.out, HK4.out⟩
    · as_aux_lemma =>
      have e1 : (x.kind == 1) = false := beq_eq_false_iff_ne.mpr (by omega)
      have e2 : (x.kind == 2) = false := beq_eq_false_iff_ne.mpr (by omega)
      have e3 : (x.kind == 3) = false := beq_eq_false_iff_ne.mpr (by omega)
      have e4 : (x.kind == 4) = false := beq_eq_false_iff_ne.mpr (by omega)
      have e5 : (x.kind == 5) = false := beq_eq_false_iff_ne.mpr (by omega)
      have e6 : (x.kind == 6) = true := beq_iff_eq.2 hk
      have HSTEP := fun h => step_cut (s := s) (x := x) h
      have HZ := Lib.hid (show s1 = (s.cut x.num x.at_).2 from by rw [← HS1.out]; exact HSTEP hk)
      obtain ⟨z, hz⟩ : ∃ z, s.cut x.num x.at_ = z := ⟨_, rfl⟩
      have HZE := Lib.hid hz
      rw [hz] at HZ
      obtain ⟨a1, z2⟩ := z
      simp only at HZ
      obtain rfl := HZ.out
      have m1 : (a1 == a1) = true := beq_one _
      clear hz hk HZ x0 x5
      go_wp2_with (fail)
      refine wp_region_held_drew (S := fun Wz => Kept (fun k => (G k ∧ k < X) ∨ b1 ≤ k) w2.drew Wz) (by kernel_rfl) (Kept.refl _ _) fun hS => ?_
      have hkd : Kept (fun _ => False) w2 w2.drew := (Kept.refl _ _).drew
      have HBD := Lib.hid (HB2.out.kept hkd id)
      have HPD := Lib.hid ((Pair.ob (Nob.ob p s) (Rob.ob q s)).more ((Pair.ob (Nob.ob p s) (Rob.ob q s)).fresh HP2.out hkd) (S := (fun k => (G k ∧ k < X) ∨ b1 ≤ k)) fun _ e => .inl e)
      have HKD := Lib.hid (show ∀ W, Kept (fun k => (G k ∧ k < X) ∨ b1 ≤ k) w2.drew W → Kept (fun k => (G k ∧ k < X) ∨ b1 ≤ k) w2 W from fun W hk => (hkd.more fun _ _ e => e.elim).trans hk fun _ _ e => e)
      have HSZ := Lib.hid (show b1 ≤ w2.drew.heap.size from HW2.out)
      clear hkd
      generalize w2.drew = V at HBD HPD HKD HSZ hS ⊢
      refine held_takeTo 192 (i := 0) (v := .pointer (some ⟨p, 0, none⟩)) rfl rfl (by kernel_rfl) (by kernel_rfl) (by kernel_rfl) (fun _ _ _ h => h) rfl hS (fun Wz hW => by go_simp) ?_
      simp only [List.setIfInBounds_toArray, List.set_cons_zero, List.set_cons_succ]
      refine held_takeTo 193 (i := 1) (v := .pointer (some ⟨X, 1, none⟩)) rfl rfl (by kernel_rfl) (by kernel_rfl) (by kernel_rfl) (fun _ _ _ h => h) rfl hS (fun Wz hW => by go_simp) ?_
      simp only [List.setIfInBounds_toArray, List.set_cons_zero, List.set_cons_succ]
      refine held_takeTo 194 (i := 2) (v := .int .i64 x.num) rfl rfl (by kernel_rfl) (by kernel_rfl) (by kernel_rfl) (fun _ _ _ h => h) rfl hS (fun Wz hW => by (have hc : Wz.cell? ⟨X, 1, none⟩ = some (.int .i64 x.num) := ((HBD.out.kept hW HXK.out).cell 1).trans rfl; go_simp)) ?_
      simp only [List.setIfInBounds_toArray, List.set_cons_zero, List.set_cons_succ]
      refine held_takeTo 195 (i := 3) (v := .pointer (some ⟨X, 4, none⟩)) rfl rfl (by kernel_rfl) (by kernel_rfl) (by kernel_rfl) (fun _ _ _ h => h) rfl hS (fun Wz hW => by go_simp) ?_
      simp only [List.setIfInBounds_toArray, List.set_cons_zero, List.set_cons_succ]
      refine held_takeTo 196 (i := 4) (v := .int .i64 x.at_) rfl rfl (by kernel_rfl) (by kernel_rfl) (by kernel_rfl) (fun _ _ _ h => h) rfl hS (fun Wz hW => by (have hc : Wz.cell? ⟨X, 4, none⟩ = some (.int .i64 x.at_) := ((HBD.out.kept hW HXK.out).cell 4).trans rfl; go_simp)) ?_
      simp only [List.setIfInBounds_toArray, List.set_cons_zero, List.set_cons_succ]
      refine held_takeTo 198 (i := 6) (v := .pointer (some ⟨q, 0, none⟩)) rfl rfl (by kernel_rfl) (by kernel_rfl) (by kernel_rfl) (fun _ _ _ h => h) rfl hS (fun Wz hW => by go_simp) ?_
      simp only [List.setIfInBounds_toArray, List.set_cons_zero, List.set_cons_succ]
      refine held_takeTo 199 (i := 7) (v := .pointer (some ⟨X, 1, none⟩)) rfl rfl (by kernel_rfl) (by kernel_rfl) (by kernel_rfl) (fun _ _ _ h => h) rfl hS (fun Wz hW => by go_simp) ?_
      simp only [List.setIfInBounds_toArray, List.set_cons_zero, List.set_cons_succ]
      refine held_takeTo 200 (i := 8) (v := .int .i64 x.num) rfl rfl (by kernel_rfl) (by kernel_rfl) (by kernel_rfl) (fun _ _ _ h => h) rfl hS (fun Wz hW => by (have hc : Wz.cell? ⟨X, 1, none⟩ = some (.int .i64 x.num) := ((HBD.out.kept hW HXK.out).cell 1).trans rfl; go_simp)) ?_
      simp only [List.setIfInBounds_toArray, List.set_cons_zero, List.set_cons_succ]
      refine held_takeTo 201 (i := 9) (v := .pointer (some ⟨X, 4, none⟩)) rfl rfl (by kernel_rfl) (by kernel_rfl) (by kernel_rfl) (fun _ _ _ h => h) rfl hS (fun Wz hW => by go_simp) ?_
      simp only [List.setIfInBounds_toArray, List.set_cons_zero, List.set_cons_succ]
      refine held_takeTo 202 (i := 10) (v := .int .i64 x.at_) rfl rfl (by kernel_rfl) (by kernel_rfl) (by kernel_rfl) (fun _ _ _ h => h) rfl hS (fun Wz hW => by (have hc : Wz.cell? ⟨X, 4, none⟩ = some (.int .i64 x.at_) := ((HBD.out.kept hW HXK.out).cell 4).trans rfl; go_simp)) ?_
      simp only [List.setIfInBounds_toArray, List.set_cons_zero, List.set_cons_succ]
      refine held_one (i := 5) (by kernel_rfl) rfl fun K hK => ?_
      obtain ⟨H, h1, h2, h3, h4⟩ := HPD.out.left (Rob.ob _ _) (Nob.ob _ _) (fun j e => .inr (Nat.le_trans HSZ.out e))
      have hop := Nw.cut_ (n := x.num) (k := x.at_) h1 h2 HNUM.out
      have HH4 := Lib.hid h4
      rw [HZE.out] at hop
      simp only at hop
      clear h1 h2 h3 h4
      go_wp2_with (fail)
      refine hop.mono ?_
      clear hop
      rintro r w3 ⟨rfl, hn, hkk⟩
      obtain ⟨hp, hkk⟩ := HH4.out _ _ (Nob.ob _ _) hn hkk
      have HP3 := Lib.hid hp
      have hS3 := hS.trans hkk fun _ _ e => e
      clear hn hp hkk HH4 HPD
      go_wp2_with (fail)
      refine hK.out _ _ hS3 fun _ => ?_
      clear hK K hS
      refine held_one (i := 11) (by kernel_rfl) rfl fun K hK => ?_
      obtain ⟨H, h1, h2, h3, h4⟩ := HP3.out.right (Nob.ob _ _) (Rob.ob _ _) (fun j e => .inr (by have := HSZ.out; have := hS3.size; omega))
      have hop := Rw.cut_ (n := x.num) (k := x.at_) h1 h2
      have HH4 := Lib.hid h4
      rw [HZE.out] at hop
      simp only at hop
      clear h1 h2 h3 h4
      go_wp2_with (fail)
      refine hop.mono ?_
      clear hop
      rintro r w4 ⟨rfl, hn, hkk⟩
      obtain ⟨hp, hkk⟩ := HH4.out _ _ (Rob.ob _ _) hn hkk
      have HP4 := Lib.hid hp
      have hS4 := hS3.trans hkk fun _ _ e => e
      clear hn hp hkk HH4 HP3
      go_wp2_with (fail)
      refine hK.out _ _ hS4 fun _ => ?_
      clear hK K hS3
      refine held_one (i := 12) (by kernel_rfl) rfl fun K hK => ?_
      go_wp2_with (fail)
      refine hK.out _ _ hS4 fun _ => ?_
      clear hK K
      refine held_one (i := 13) (by kernel_rfl) rfl fun K hK => ?_
      go_wp2_with (fail)
      refine hK.out _ _ hS4 fun _ => ?_
      clear hK K
      refine wpAnyH_done (by kernel_rfl) ?_ _
      have HK4 := Lib.hid (HKD.out _ hS4)
      clear hS4
      go_wp2_with (fail)
      go_meet
      case rel => exact ⟨rfl, HP4.out, HK4.out⟩
    · as_aux_lemma =>
      have e1 : (x.kind == 1) = false := beq_eq_false_iff_ne.mpr (by omega)
      have e2 : (x.kind == 2) = false := beq_eq_false_iff_ne.mpr (by omega)
      have e3 : (x.kind == 3) = false := beq_eq_false_iff_ne.mpr (by omega)
      have e4 : (x.kind == 4) = false := beq_eq_false_iff_ne.mpr (by omega)
      have e5 : (x.kind == 5) = false := beq_eq_false_iff_ne.mpr (by omega)
      have e6 : (x.kind == 6) = false := beq_eq_false_iff_ne.mpr (by omega)
      have HZ := Lib.hid (show s1 = s from by rw [← HS1.out]; exact step_other hk)
      obtain rfl := HZ.out
      have HPE := Lib.hid ((Pair.ob (Nob.ob p s1) (Rob.ob q s1)).more HP2.out (S := (fun k => (G k ∧ k < X) ∨ b1 ≤ k)) fun _ e => .inl e)
      clear hk HZ
      go_wp2_with (fail)
      go_meet
      case rel => exact ⟨rfl, HPE.out, Kept.refl _ _⟩
  case rest =>
    as_aux_lemma =>
    obtain ⟨rfl, hp, hkk⟩ := hcut
    obtain ⟨w5, rfl⟩ : ∃ w5 : World, w5 = wc := ⟨_, rfl⟩
    have HP5 := Lib.hid hp
    have HK5 := Lib.hid hkk
    have HB5 := Lib.hid (HB2.out.kept hkk HXK.out)
    have HOR := Lib.hid (HOW.out w5 hkk)
    have HGV5 := Lib.hid (HGV.out w5 hkk)
    have HXV5 := Lib.hid (HBK.out w5 (HBW.out w5 hkk))
    have y5 : w5.cell? ⟨X, 5, none⟩ = some (.slice x.dA x.data.length x.dc) := (HB5.out.cell 5).trans rfl
    clear hp hkk x0 x5 HP2 HB2 HOW HGV
    go_wp2_with (fail)
    refine (Bytes20_any (some ⟨gb, 0, none⟩) x.dA x.data x.data c x.dc w5 HGV5.out HXV5.out (by omega)).mono ?_
    rw [decide_eq_true rfl]
    rintro r w6 ⟨rfl, hk⟩
    have HP6 := Lib.hid ((Pair.ob (Nob.ob p s1) (Rob.ob q s1)).fresh HP5.out hk)
    have HK6 := Lib.hid (HK5.out.trans hk fun _ _ e => e.elim)
    have HB6 := Lib.hid (HB5.out.kept hk id)
    have HO6 := Lib.hid (hk.own HOR.out fun _ _ => id)
    have y5' : w6.cell? ⟨X, 5, none⟩ = some (.slice x.dA x.data.length x.dc) := (HB6.out.cell 5).trans rfl
    obtain ⟨g9, e9, -, hdc, -⟩ := own_cells HO6.out (by omega)
    injection e9 with e9
    injection e9 with e9 _ _
    subst e9
    have v0 : w6.cell? ⟨gb, x.data.length, none⟩ = some (.int .u8 171) := hdc _ _ (by simp [bys])
    have hi1 : (x.data.length : Int) < (x.data.length : Int) + 1 := by omega
    clear hk hdc HP5 HK5 HB5 HOR HGV5 HXV5 y5
    go_wp2_with (fail)
    go_loopw [28] (fun i wr => ∃ (k : Nat) (l' : List Int), i = .int .i64 k ∧ k ≤ x.data.length + 1 ∧ l'.length = x.data.length + 1 ∧ wr.ownsRow w0.heap.size 5 1 (.slice (some ⟨gb, 0, none⟩) (x.data.length + 1) c) (x.data.length + 1) (bys l') ∧ Kept (fun k => k = gb) w6 wr) (fun i _ => x.data.length + 1 - (intOf i).toNat)
    case atStart => exact ⟨0, _, rfl, Nat.zero_le _, by rw [List.length_append]; rfl, HO6.out, Kept.refl _ _⟩
    case round =>
      obtain ⟨k, l2, rfl, hk, hl2, ho, hkk⟩ := hrel
      have HOL := Lib.hid ho
      have HKL := Lib.hid hkk
      have HL2 := Lib.hid hl2
      clear ho hkk hl2 HO6
      by_cases hlt : k < x.data.length + 1
      · obtain ⟨ga, e1, e2, hdc, hfz⟩ := own_cells HOL.out (by omega)
        injection e1 with e1
        injection e1 with e1 _ _
        subst e1
        obtain ⟨ov, hov⟩ : ∃ ov, l2[k]'(by rw [HL2.out]; exact hlt) = ov := ⟨_, rfl⟩
        have v1 : wr.cell? ⟨gb, k, none⟩ = some (.int .u8 ov) := hdc k _ (by rw [← hov]; simp [bys])
        have fz : wr.frozen? ⟨gb, k, none⟩ = false := hfz k
        have ho6 := own_put HOL.out k (.int .u8 90)
        have HO8 := Lib.hid (show (wr.setCell ⟨gb, k, none⟩ (.int .u8 90)).ownsRow w0.heap.size 5 1 (.slice (some ⟨gb, 0, none⟩) (x.data.length + 1) c) (x.data.length + 1) (bys (l2.set k 90)) from by
          rw [show bys (l2.set k 90) = (bys l2).set k (.int .u8 90) by simp [bys, List.map_set]]
          exact ho6)
        have HK8 := Lib.hid (HKL.out.at (g := gb) k (.int .u8 90) (.inl rfl))
        have HL8 := Lib.hid (show (l2.set k 90).length = x.data.length + 1 by rw [List.length_set]; exact HL2.out)
        have hk0 : (0 : Int) ≤ (k : Int) := by omega
        have hki : (k : Int) < (x.data.length : Int) + 1 := by omega
        clear hdc hfz hov ho6 HOL HKL e2 v0
        go_wp2_with (fail)
        go_roundw
        case rel => exact ⟨k + 1, l2.set k 90, by go_num, by omega, HL8.out, HO8.out, HK8.out⟩
        case measure => simp [intOf]; omega
      · have hki : ¬ (k : Int) < (x.data.length : Int) + 1 := by omega
        have HP9 := Lib.hid ((Pair.ob (Nob.ob p s1) (Rob.ob q s1)).more ((Pair.ob (Nob.ob p s1) (Rob.ob q s1)).kept HP6.out HKL.out fun k e e2 => by have := HGB.out; omega) (S := G) fun k e => e.elim (fun e => e.1) fun e => HGS.out k (by have := HWX.out; have := HGB.out; omega))
        have HK9 := Lib.hid ((HBW.out w6 HK6.out).trans HKL.out fun k hk e => by have := HWX.out; have := HGB.out; omega)
        go_wp2_with (fail)
        go_ret
        exact ⟨rfl, HP9.out, HK9.out⟩
end Go.Proofs.Ytopcogogpbcbhaa
