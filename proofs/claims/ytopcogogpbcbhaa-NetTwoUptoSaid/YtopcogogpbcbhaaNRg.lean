/- A copy of the reference's row turned bad; the walk of its Cut. Conditions: the network lies in memory. -/
import Derived.Test.YtopcogogpbcbhaaNRe
namespace Go.Proofs.Ytopcogogpbcbhaa
open Go Go.RowKit

def setMany : List Value → Nat → List Value → List Value
  | xs, _, [] => xs
  | xs, o, v :: r => setMany (xs.set o v) (o + 1) r
theorem own_setCells {b g z n c : Nat} {e : TypeId} : ∀ (vs : List Value) (o : Nat) (xs : List Value) (w : World), w.ownsRow b e z (.slice (some ⟨g, 0, none⟩) n c) n xs → (w.setCells g o vs).ownsRow b e z (.slice (some ⟨g, 0, none⟩) n c) n (setMany xs o vs) ∧ Kept (fun k => k = g) w (w.setCells g o vs)
  | [], _, _, w, h => ⟨h, Kept.refl _ _⟩
  | v :: r, o, xs, w, h => by
    have h1 := (World.ownsRow.stored h o v).1
    obtain ⟨h2, h3⟩ := own_setCells r (o + 1) (xs.set o v) _ h1
    exact ⟨h2, ((Kept.refl (fun k => k = g) w).at (g := g) o v (.inl rfl)).trans h3 fun _ _ e => e⟩
theorem setMany_app (a : List Value) (k : Nat) (hk : a.length = k) : ∀ (vs : List Value) (o : Nat) (b : List Value), setMany (a ++ b) (k + o) vs = a ++ setMany b o vs
  | [], _, _ => rfl
  | v :: r, o, b => by
    show setMany ((a ++ b).set (k + o) v) (k + o + 1) r = a ++ setMany (b.set o v) (o + 1) r
    rw [List.set_append_right _ _ (by omega), show k + o - a.length = o by omega, Nat.add_assoc]
    exact setMany_app a k hk r (o + 1) _
theorem hes_put (l : List He) (j : Nat) (hj : j < l.length) (c : Cp) (A : Option Addr) (cap : Nat) (hc : c.clean = l[j].c.clean) : setMany (hes l) (j * 7) (cpC c A cap).toList = hes (l.set j ⟨c, A, cap, l[j].cA, l[j].cc⟩) := by
  induction l generalizing j with
  | nil => simp at hj
  | cons x l ih =>
    have e : hes (x :: l) = x.cs.toList ++ hes l := rfl
    cases j with
    | zero =>
      have hcl : c.clean.length = x.c.clean.length := congrArg List.length hc
      show setMany (x.cs.toList ++ hes l) 0 (cpC c A cap).toList = (He.mk c A cap x.cA x.cc).cs.toList ++ hes l
      simp only [cpC, He.cs, He.dV, He.cV, setMany, List.cons_append, List.nil_append, List.set_cons_zero, List.set_cons_succ, hcl]
    | succ j =>
      have h1 := ih j (by simpa using hj) hc
      rw [e, show (j + 1) * 7 = 7 + j * 7 by omega, setMany_app _ 7 (by rw [Array.length_toList, He.cs_size])]
      rw [h1]
      rfl
theorem put_set {s : Nt} (hok : s.Ok) {n : Int} {j : Nat} (hj : j < s.l.length) (hg : s.get n = some s.l[j]) (d : List Int) : (s.put n d).l = s.l.set j (s.l[j].turn d) := by
  have hn : (s.l[j].num : Int) = n := (Nt.get_mem hg).2
  have hp := List.pairwise_iff_getElem.1 hok.up
  show s.l.map _ = _
  refine List.ext_getElem (by simp) fun i h1 h2 => ?_
  rw [List.length_map] at h1
  rw [List.getElem_map, List.getElem_set]
  by_cases e : j = i
  · subst e
    rw [if_pos rfl, if_pos (by simp [Cp.is, hn])]
  · rw [if_neg e, if_neg]
    intro hi
    have hi : (s.l[i].num : Int) = n := by simpa [Cp.is] using hi
    rcases Nat.lt_or_ge i j with h | h
    · have := hp i j h1 hj h; omega
    · have := hp j i hj h1 (by omega); omega
theorem RNetAt.bad_ {w W : World} {p : Nat} {F : Nat → Prop} {s : Nt} {g lc : Nat} {hs : List He} (h : RNetAt w p F s (some ⟨g, 0, none⟩) lc hs) {n : Int} {j : Nat} (hj : j < s.l.length) (hjl : j < hs.length) (hg : s.get n = some s.l[j]) {d : List Int} (hby : isByte d) (hdl : d.length ≤ 60000) {A : Option Addr} {c : Nat}
    (hk : Kept (fun k => k = g) w W) (hrow : W.ownsRow 0 79 7 (.slice (some ⟨g, 0, none⟩) hs.length lc) hs.length (hes (hs.set j ⟨s.l[j].turn d, A, c, hs[j].cA, hs[j].cc⟩)))
    (ho : W.ownsRow w.heap.size 5 1 (.slice A d.length c) d.length (bys d)) : RNetPost w p F (s.put n d) W := by
  have hgl : (Value.slice (some ⟨g, 0, none⟩) hs.length lc).ownBlock = some g := rfl
  have hpg : p ≠ g := fun e => own_box_ne h.row h.box (by decide) (by rw [e]; rfl)
  have hgF := h.fL g hgl
  have hxc := he_map h.tie hjl hj
  have hd : ∀ (y : Value) (l : List Int), w.ownsRow 0 5 1 y l.length (bys l) → ∀ k, y.ownBlock = some k → ¬ k = g := fun y l hy k e e2 => own_kinds hy h.row (by decide) k e (by rw [e2]; rfl)
  refine ⟨fun k => (F k ∨ w.heap.size ≤ k) ∧ k < W.heap.size, some ⟨g, 0, none⟩, lc, _, ⟨?_, ?_, by rw [List.length_set]; exact hrow, ⟨.inl h.fp, Nat.lt_of_lt_of_le (h.lt p h.fp) hk.size⟩, fun k e => ?_, fun x hx => ?_, fun k e => e.2, h.ok.put n hby hdl, h.last⟩, fun k e => e.1, hk.more fun k _ e => by rw [e]; exact hgF⟩
  · rw [put_set h.ok hj hg, List.map_set, h.tie]
  · rw [List.length_set]; exact h.box.kept hk hpg
  · rw [List.length_set] at e
    have e2 : k = g := by rw [hgl] at e; injection e with e; exact e.symm
    subst e2
    exact ⟨.inl hgF, Nat.lt_of_lt_of_le (h.lt _ hgF) hk.size⟩
  · have keep : ∀ k, F k → (F k ∨ w.heap.size ≤ k) ∧ k < W.heap.size := fun k e => ⟨.inl e, Nat.lt_of_lt_of_le (h.lt k e) hk.size⟩
    rcases List.mem_or_eq_of_mem_set hx with hx | hx
    · have ha := h.ats x hx
      exact ⟨hk.own ha.d (hd _ _ ha.d), hk.own ha.cl (hd _ _ ha.cl), fun k e => keep k (ha.Fd k e), fun k e => keep k (ha.Fc k e)⟩
    · subst hx
      have ha := h.ats _ (List.getElem_mem hjl)
      have hcl : s.l[j].clean = hs[j].c.clean := by rw [hxc]
      refine ⟨own_base ho (Nat.zero_le _), ?_, fun k e => ⟨.inr (ho.lt k e).1, (ho.lt k e).2⟩, ?_⟩
      · show W.ownsRow 0 5 1 (.slice hs[j].cA s.l[j].clean.length hs[j].cc) s.l[j].clean.length (bys s.l[j].clean)
        rw [hcl]
        exact hk.own ha.cl (hd _ _ ha.cl)
      · show ∀ k, (Value.slice hs[j].cA s.l[j].clean.length hs[j].cc).ownBlock = some k → _
        rw [hcl]
        exact fun k e => keep k (ha.Fc k e)
theorem row_there {w : World} {b g z n c o m : Nat} {e : TypeId} {xs : List Value} (h : w.ownsRow b e z (.slice (some ⟨g, 0, none⟩) n c) n xs) (ho : o + m ≤ xs.length) : w.there g o m := fun i hi => by
  have hx : o + i < xs.length := by omega
  have := h.cells (g := g) rfl (o + i) xs[o + i] (by rw [List.getElem?_eq_getElem hx])
  rw [add_none] at this
  exact ⟨by rw [this]; rfl, World.ownsRow.frozenAt h _⟩
theorem run_load_cpb {w : World} {a : Act} (op : Oper) (x : Operand) (ho : op.op = .load 44 x) (g : Nat) (hx : a.eval x = .pointer (some ⟨g, 0, none⟩)) {c : Cp} {A : Option Addr} {cap : Nat} (hb : Box w g 44 (cpC c A cap)) : (execOp a.eval op).run Try.prog w = .ok (.value (.agg (cpC c A cap))) w := by
  unfold execOp
  simp only [ho, hx, Instr.loadAt, Instr.sureAddr, Sem.run_bind, Sem.run_pure, Result.andThen_ok, load_CP hb]
set_option maxRecDepth 100000 in
set_option maxHeartbeats 12800000 in
theorem RCut_any (p : Nat) (F : Nat → Prop) (s : Nt) (L : Option Addr) (lc : Nat) (hs : List He) (w : World) (h : RNetAt w p F s L lc hs) (n a : Int) :
    Calls Try.prog 33 #[.pointer (some ⟨p, 0, none⟩), .int .i64 n, .int .i64 a] w (fun r w' => r = .returned (.int .i64 (s.cut n a).1) ∧ RNetPost w p F (s.cut n a).2 w') := by
  have HY := Lib.hid (show ∀ c, s.get n = some c → s.cut n a = (if cutOk c.data a = true then (if c.bad = true then (12, s) else (0, s.put n (c.data.take a.toNat))) else (1, s)) from fun c e => by unfold Nt.cut; rw [e])
  have HNO := Lib.hid (show s.get n = none → s.cut n a = (11, s) from fun e => by unfold Nt.cut; rw [e])
  have HZW := Lib.hid h
  have HPL := Lib.hid (RPlace_any p F s L lc hs w h h.small n)
  clear h
  obtain ⟨z, hz⟩ : ∃ z, s.cut n a = z := ⟨_, rfl⟩
  rw [hz] at HY HNO ⊢
  clear hz
  go_enter Try.func33, Try.ntmps33
  go_wp2_with (fail)
  refine HPL.out.mono ?_
  rintro r w1 ⟨hk, ⟨rfl, hg⟩ | ⟨j, hj, rfl, hg⟩⟩
  · as_aux_lemma =>
    have HE := Lib.hid (HNO.out hg)
    have HS := Lib.hid (HZW.out.stay hk)
    clear hk hg HY HNO
    go_wp2_with (fail)
    go_ret
    exact ⟨by rw [HE.out]; rfl, by rw [HE.out]; exact HS.out⟩
  have HE := Lib.hid (HY.out _ hg)
  have HZ1 := Lib.hid (HZW.out.fresh hk)
  have HK := Lib.hid hk
  have HG := Lib.hid hg
  have hjl : j < hs.length := by rw [HZW.out.len]; exact hj
  have hxc := he_map HZW.out.tie hjl hj
  obtain ⟨x, hx⟩ : ∃ x, hs[j] = x := ⟨_, rfl⟩
  have HXM := Lib.hid (show x ∈ hs by rw [← hx]; exact List.getElem_mem hjl)
  have HPT := Lib.hid (he_part hjl hx).2
  rw [hx] at hxc
  have hdl : x.c.data.length ≤ 60000 := by rw [hxc]; exact (HZW.out.ok.len _ (List.getElem_mem hj)).2
  have HBYD := Lib.hid (show isByte x.c.data by rw [hxc]; exact (HZW.out.ok.by_ _ (List.getElem_mem hj)).2)
  obtain ⟨g, e1, -, -, -⟩ := own_cells HZ1.out.row (by omega)
  subst e1
  have hj0 : (0 : Int) ≤ (j : Int) := by omega
  have hji : (j : Int) < (hs.length : Int) := by omega
  have hjn : ¬ (j : Int) < 0 := by omega
  have x0 : w1.cell? ⟨p, 0, none⟩ = some (.slice (some ⟨g, 0, none⟩) hs.length lc) := (HZ1.out.box.cell 0).trans rfl
  have HN := Lib.hid (Box.new w1 44 (cpC zeroCp none 0))
  have HXC := Lib.hid hxc
  rw [← hxc] at HE
  clear hk hg hx hxc HY HNO HPL
  go_wp2_with (first | (refine load_part rfl 44 _ rfl g (j * 7) rfl HZ1.out.row (cpC x.c x.dA x.dc) und_cp size_cp HPT.out ?_) | (refine wpList_store_box rfl 44 _ _ rfl w1.heap.size (cpC x.c x.dA x.dc) rfl rfl 44 (cpC zeroCp none 0) HN.out size_cp rfl (cpC_one _ _ _) ?_))
  intro w2 HB2 hk2
  have hk2' : Kept (fun _ => False) w1 w2 := ((Kept.refl _ w1).alloc _).trans hk2 fun j hj e => by omega
  have HZ2 := Lib.hid (HZ1.out.fresh hk2')
  have HK2 := Lib.hid (HK.out.trans hk2' fun _ _ e => e)
  have HX2 := Lib.hid (show w.heap.size ≤ w1.heap.size from HK.out.size)
  obtain ⟨X, hX⟩ : ∃ X, w1.heap.size = X := ⟨_, rfl⟩
  rw [hX] at HB2 HX2 ⊢
  have ha := HZ2.out.ats x HXM.out
  have HD2 := Lib.hid ha.d
  obtain ⟨⟨n1, n2, n3, n4, n5, dd, bad⟩, xdA, xdc, xcA, xcc⟩ := x
  simp only at HB2 HD2 HE hdl HBYD HXC
  have x3 : w2.cell? ⟨X, 3, none⟩ = some (.slice xdA dd.length xdc) := (HB2.out.cell 3).trans rfl
  have x5 : w2.cell? ⟨X, 5, none⟩ = some (.bool bad) := (HB2.out.cell 5).trans rfl
  clear hk2 hk2' hX ha HZ1 HN x0 HPT
  by_cases h1 : a < 0
  · as_aux_lemma =>
    have d0 : decide (a < 0) = true := decide_eq_true h1
    have HV := Lib.hid (show cutOk dd a = false from decide_eq_false (by omega))
    have HS := Lib.hid (HZW.out.stay HK2.out)
    rw [HV.out] at HE
    clear h1
    go_wp2_with (fail)
    go_ret
    rw [HE.out]
    exact ⟨rfl, HS.out⟩
  have d0 : decide (a < 0) = false := decide_eq_false h1
  by_cases h2 : (dd.length : Int) ≤ a
  · as_aux_lemma =>
    have d1 : decide ((dd.length : Int) ≤ a) = true := decide_eq_true h2
    have HV := Lib.hid (show cutOk dd a = false from decide_eq_false (by omega))
    have HS := Lib.hid (HZW.out.stay HK2.out)
    rw [HV.out] at HE
    clear h1 h2
    go_wp2_with (fail)
    go_ret
    rw [HE.out]
    exact ⟨rfl, HS.out⟩
  have d1 : decide ((dd.length : Int) ≤ a) = false := decide_eq_false h2
  have HV := Lib.hid (show cutOk dd a = true from decide_eq_true (by omega))
  rw [HV.out, if_pos rfl] at HE
  obtain ⟨m, rfl⟩ : ∃ m : Nat, a = (m : Int) := ⟨a.toNat, by omega⟩
  cases bad with
  | true =>
    as_aux_lemma =>
    have HS := Lib.hid (HZW.out.stay HK2.out)
    rw [if_pos rfl] at HE
    go_wp2_with (fail)
    go_ret
    rw [HE.out]
    exact ⟨rfl, HS.out⟩
  | false =>
    rw [if_neg (by simp), Int.toNat_natCast] at HE
    obtain ⟨gd, e9, -, -, -⟩ := own_cells HD2.out (by simp only; omega)
    simp only at e9
    subst e9
    have hcp := own_caps HD2.out
    simp only at hcp
    have hm0 : (0 : Int) ≤ (m : Int) := by omega
    have hmc : (m : Int) ≤ (xdc : Int) := by omega
    have htk := (BytesAt.of_own HD2.out).taken m
    simp only at htk
    obtain ⟨D, hD⟩ : ∃ D, dd.take m = D := ⟨_, rfl⟩
    rw [hD] at HE htk
    have hDl : D.length = m := by rw [← hD, List.length_take]; omega
    have HDB := Lib.hid (show isByte D ∧ D.length ≤ 60000 from ⟨fun v hv => HBYD.out v (by rw [← hD] at hv; exact List.mem_of_mem_take hv), by omega⟩)
    have htw := RTwin_any (some ⟨gd, 0, none⟩) D xdc w2 htk (fun h => by cases h) (by omega)
    rw [hDl] at htw
    clear hD htk
    go_wp2_with (fail)
    refine htw.mono ?_
    clear htw
    rintro r w3 ⟨A2, c2, rfl, ho, hk⟩
    have HDL := Lib.hid hDl
    have HO3 := Lib.hid (own_base ho HK2.out.size)
    have HB3 := Lib.hid (HB2.out.kept hk id)
    have HK3 := Lib.hid (HK2.out.trans hk fun _ _ e => e)
    have HAX := Lib.hid (show ∀ k, (Value.slice A2 D.length c2).ownBlock = some k → k ≠ X from fun k e e2 => by have := (ho.lt k e).1; have := HB2.out.lt; omega)
    have z3 : w3.cell? ⟨X, 3, none⟩ = some (.slice (some ⟨gd, 0, none⟩) dd.length xdc) := (HB3.out.cell 3).trans rfl
    have f3 := HB3.out.frozen 3
    have hb4 := HB3.out.set 3 (.slice A2 D.length c2)
    have hk4 := (Kept.refl (fun k => k = X) w3).at (g := X) 3 (.slice A2 D.length c2) (.inl rfl)
    have z5 : (w3.setCell ⟨X, 3, none⟩ (.slice A2 D.length c2)).cell? ⟨X, 5, none⟩ = some (.bool false) := (hb4.cell 5).trans rfl
    have f5 := hb4.frozen 5
    have hb5 := hb4.set 5 (.bool true)
    have hk5 := hk4.at (g := X) 5 (.bool true) (.inl rfl)
    have HBX := Lib.hid (show Box ((w3.setCell ⟨X, 3, none⟩ (.slice A2 D.length c2)).setCell ⟨X, 5, none⟩ (.bool true)) X 44 (cpC (s.l[j].turn D) A2 c2) from by rw [← HXC.out]; exact hb5)
    have HKW := Lib.hid (HK3.out.trans hk5 fun k hk e => by have := HX2.out; omega)
    have HO := Lib.hid (hk5.own HO3.out fun k e e2 => HAX.out k e e2)
    have x0 : True := trivial
    clear hDl hb4 hk4 hb5 hk5 ho hk HB3 HO3 HK3 HZ2 HB2 HD2 hcp
    clear x3
    have x3 : True := trivial
    go_upto_region 11 with (fail)
    generalize (w3.setCell ⟨X, 3, none⟩ (.slice A2 D.length c2)).setCell ⟨X, 5, none⟩ (.bool true) = W at HBX HKW HO ⊢
    have HZL := Lib.hid (HZW.out.fresh HKW.out)
    have hpg : p ≠ g := fun e => own_box_ne HZL.out.row HZL.out.box (by decide) (by rw [e]; rfl)
    have hXg : X ≠ g := fun e => own_box_ne HZL.out.row HBX.out (by decide) (by rw [e]; rfl)
    clear x0 x3
    refine wp_region_held_drew (S := fun Wz => Kept (fun k => k = g) W.drew Wz) (by kernel_rfl) (Kept.refl _ _) fun hS => ?_
    have HKD := Lib.hid (HKW.out.trans (Kept.refl (fun _ => False) W).drew fun _ _ e => e)
    have HZD := Lib.hid (HZL.out.fresh (Kept.refl (fun _ => False) W).drew)
    have HBD := Lib.hid (show Box W.drew X 44 (cpC (s.l[j].turn D) A2 c2) from HBX.out)
    have HOD := Lib.hid ((Kept.refl (fun _ => False) W).drew.own HO.out fun _ _ => id)
    clear HKW HZL HBX HO
    generalize W.drew = V at HKD HZD HBD HOD hS ⊢
    refine held_takeTo 40 (i := 0) (v := .pointer (some ⟨p, 0, none⟩)) rfl rfl (by kernel_rfl) (by kernel_rfl) (by kernel_rfl) (fun _ _ _ h => h) rfl hS (fun Wz hW => by go_simp) ?_
    simp only [List.setIfInBounds_toArray, List.set_cons_zero, List.set_cons_succ]
    refine held_takeTo 41 (i := 1) (v := .pointer (some ⟨p, 0, none⟩)) rfl rfl (by kernel_rfl) (by kernel_rfl) (by kernel_rfl) (fun _ _ _ h => h) rfl hS (fun Wz hW => by go_simp) ?_
    simp only [List.setIfInBounds_toArray, List.set_cons_zero, List.set_cons_succ]
    refine held_takeTo 42 (i := 2) (v := .pointer (some ⟨p, 0, none⟩)) rfl rfl (by kernel_rfl) (by kernel_rfl) (by kernel_rfl) (fun _ _ _ h => h) rfl hS (fun Wz hW => by go_simp) ?_
    simp only [List.setIfInBounds_toArray, List.set_cons_zero, List.set_cons_succ]
    refine held_takeTo 43 (i := 3) (v := .slice (some ⟨g, 0, none⟩) hs.length lc) rfl rfl (by kernel_rfl) (by kernel_rfl) (by kernel_rfl) (fun _ _ _ h => h) rfl hS (fun Wz hW => by (have hc : Wz.cell? ⟨p, 0, none⟩ = some (.slice (some ⟨g, 0, none⟩) hs.length lc) := ((HZD.out.box.kept hW hpg).cell 0).trans rfl; go_simp)) ?_
    simp only [List.setIfInBounds_toArray, List.set_cons_zero, List.set_cons_succ]
    refine held_takeTo 44 (i := 4) (v := .int .i64 (j : Int)) rfl rfl (by kernel_rfl) (by kernel_rfl) (by kernel_rfl) (fun _ _ _ h => h) rfl hS (fun Wz hW => by go_simp) ?_
    simp only [List.setIfInBounds_toArray, List.set_cons_zero, List.set_cons_succ]
    refine held_takeTo 45 (i := 5) (v := .agg (cpC (s.l[j].turn D) A2 c2)) rfl rfl (by kernel_rfl) (by kernel_rfl) (by kernel_rfl) (fun _ _ _ h => h) rfl hS (fun Wz hW => run_load_cpb _ _ rfl X rfl (HBD.out.kept hW hXg)) ?_
    simp only [List.setIfInBounds_toArray, List.set_cons_zero, List.set_cons_succ]
    refine held_one (i := 6) (by kernel_rfl) rfl fun K hK => ?_
    go_wp2_with (fail)
    refine hK.out _ _ hS fun _ => ?_
    clear hK K
    refine held_one (i := 7) (by kernel_rfl) rfl fun K hK => ?_
    go_wp2_with (fail)
    refine hK.out _ _ hS fun _ => ?_
    clear hK K
    refine held_one (i := 8) (by kernel_rfl) rfl fun K hK => ?_
    refine wpList_store_mid rfl 44 _ _ rfl g (j * 7) (cpC (s.l[j].turn D) A2 c2) rfl rfl (row_there HZD.out.row (by rw [hes_len, cpC_size6]; omega)) size_cp (cpC_one _ _ _) ?_
    obtain ⟨ho1, hk1⟩ := own_setCells (cpC (s.l[j].turn D) A2 c2).toList (j * 7) _ V HZD.out.row
    rw [hes_put hs j hjl _ _ _ (by rw [he_map HZD.out.tie hjl hj]; rfl)] at ho1
    have HR1 := Lib.hid ho1
    have HO1 := Lib.hid (hk1.own HOD.out fun k e e2 => own_kinds HOD.out HZD.out.row (by decide) k e (by rw [e2]; rfl))
    have HK1 := Lib.hid ((HKD.out.more (T := fun k => k = g) fun _ _ e => e.elim).trans hk1 fun _ _ e => e)
    have hS1 := hS.trans hk1 fun _ _ e => e
    clear ho1 hk1
    generalize V.setCells g (j * 7) (cpC (s.l[j].turn D) A2 c2).toList = V2 at HR1 HO1 HK1 hS1 ⊢
    go_wp2_with (fail)
    refine hK.out _ _ hS1 fun _ => ?_
    clear hK K hS
    refine wpAnyH_done (by kernel_rfl) ?_ _
    clear hS1
    go_wp2_with (fail)
    go_ret
    rw [HE.out]
    exact ⟨rfl, HZW.out.bad_ hj hjl HG.out HDB.out.1 HDB.out.2 HK1.out HR1.out HO1.out⟩
end Go.Proofs.Ytopcogogpbcbhaa
