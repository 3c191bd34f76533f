/- The walk of the reference's Hear. Conditions: the Front and the list lie in memory. -/
import Derived.Test.YthlejmpeigfdgaaRFMem
namespace Go.Proofs.Ythlejmpeigfdgaa
open Go Go.RowKit

theorem upd_val {f : Nat → Rs} {i : Nat} {x : Rs} : (fun j => (upd f i x j).v) = upd (fun j => (f j).v) i x.v := by
  funext j
  unfold upd
  split <;> rfl
theorem upd_bool {f : Nat → Bool} {i : Nat} {x : Bool} : (fun j => Value.bool (upd f i x j)) = upd (fun j => .bool (f j)) i (.bool x) := by
  funext j
  unfold upd
  split <;> rfl
theorem upd_id {α : Type} {f : Nat → α} {i : Nat} : upd f i (f i) = f := by
  funext j
  unfold upd
  split
  · rename_i e; rw [e]
  · rfl
theorem upd_twice {α : Type} {f : Nat → α} {i : Nat} {x y : α} : upd (upd f i x) i y = upd f i y := by
  funext j
  unfold upd
  split <;> rfl
theorem RfOf.hear {s : List Fp} {r c : Nat → Rs} {hd : Nat → Bool} (h : RfOf s r c hd) (v : List Dt) (i : Nat) (hi : i < 17) {x : Rs} (hx : x.l = joinD (rowF s i) v) : RfOf (hearF s i v) (upd r i x) c (upd hd i true) := by
  refine ⟨fun j hj => ?_, fun j hj => ?_, fun j hj => ?_⟩
  · rw [rowF_hearF]
    unfold upd
    by_cases e : j = i
    · subst e; rw [if_pos rfl, if_pos rfl, hx]
    · rw [if_neg e, if_neg (by omega)]; exact h.r j hj
  · rw [usableF_hearF]; exact h.c j hj
  · rw [heardF_hearF]
    unfold upd
    by_cases e : j = i
    · subst e; rw [if_pos rfl, if_pos rfl]
    · rw [if_neg e, if_neg (by omega)]; exact h.h j hj
/-- A row is written, and that it was heard of. -/
theorem RfAt.heard {w w' : World} {g : Nat} {F : Nat → Prop} {r c : Nat → Rs} {hd : Nat → Bool} (h : RfAt w g F r c hd) (i : Nat) (x : Rs) (hk : Kept (fun k => k = g) w w')
    (hb : Box w' g 59 (rfCells (upd (fun j => (r j).v) i x.v) (fun j => (c j).v) (upd (fun j => .bool (hd j)) i (.bool true)))) (hx : w'.ownsRow w.heap.size 56 2 x.v x.l.length (dots x.l)) :
    RfAt w' g (fun k => F k ∨ x.v.ownBlock = some k) (upd r i x) c (upd hd i true) ∧ Kept F w w' := by
  have ne : ∀ {y : Rs}, w.ownsRow 0 56 2 y.v y.l.length (dots y.l) → ∀ k, y.v.ownBlock = some k → k ≠ g := fun ho k e e2 => own_box_ne ho h.box (by decide) (by rw [e, e2])
  refine ⟨⟨?_, fun j hj => ?_, fun j hj => ?_, .inl h.fg, fun k e => e.elim (fun e => Nat.lt_of_lt_of_le (h.lt k e) hk.size) fun e => (hx.lt k e).2⟩, hk.more fun k _ e => by rw [e]; exact h.fg⟩
  · rw [upd_val, upd_bool]; exact hb
  · unfold upd
    split
    · exact ⟨own_base hx (Nat.zero_le _), fun k e => .inr e⟩
    · exact ⟨hk.own (h.r j hj).1 fun k e => ne (h.r j hj).1 k e, fun k e => .inl ((h.r j hj).2 k e)⟩
  · exact ⟨hk.own (h.c j hj).1 fun k e => ne (h.c j hj).1 k e, fun k e => .inl ((h.c j hj).2 k e)⟩
set_option maxRecDepth 100000 in
set_option maxHeartbeats 1600000 in
theorem RFHear_any (g : Nat) (F : Nat → Prop) (s : List Fp) (w : World) (h : RfS w g F s) (m : Int) (A : Option Addr) (v : List Dt) (c : Nat) (hv : ∀ W, Kept F w W → DotsAt W A v) (hl : v.length ≤ 1000000) :
    Calls Try.prog 25 #[.pointer (some ⟨g, 0, none⟩), .int .i64 m, .slice A v.length c] w (fun r w' => r = .returned (.int .i64 (hearE m v)) ∧ RfPost w g F (hear s m v) w') := by
  by_cases hm : 1 ≤ m ∧ m ≤ 16
  case neg =>
    as_aux_lemma =>
    have HE := Lib.hid (show hearE m v = 1 from if_neg hm)
    have HS := Lib.hid (show hear s m v = s from if_neg (by rw [HE.out]; decide))
    rw [HE.out, HS.out]
    have hdm : decide (1 ≤ m ∧ m ≤ 16) = false := decide_eq_false hm
    have HZ := Lib.hid h
    clear h hm hv
    go_enter Try.func25, Try.ntmps25
    go_wp2_with (fail)
    refine (RFsite_any w m).mono ?_
    rintro r w1 ⟨rfl, hk⟩
    rw [hdm]
    have HK := Lib.hid hk
    clear hk
    go_wp2_with (fail)
    go_ret
    exact ⟨rfl, HZ.out.stay HK.out⟩
  have HE := Lib.hid (show hearE m v = checkV v from if_pos hm)
  have hck := RCheck_any A v c
  by_cases he : checkV v = 0
  case neg =>
    as_aux_lemma =>
    have HS := Lib.hid (show hear s m v = s from if_neg (by rw [HE.out]; exact he))
    rw [HE.out, HS.out]
    obtain ⟨e, hee⟩ : ∃ e, checkV v = e := ⟨_, rfl⟩
    rw [hee] at he hck ⊢
    have hdm : decide (1 ≤ m ∧ m ≤ 16) = true := decide_eq_true hm
    have hb : (e != 0) = true := by simp [he]
    have HZ := Lib.hid h
    have HV := Lib.hid hv
    clear h hm hv hee he
    go_enter Try.func25, Try.ntmps25
    go_wp2_with (fail)
    refine (RFsite_any w m).mono ?_
    rintro r w1 ⟨rfl, hk⟩
    rw [hdm]
    have HK := Lib.hid hk
    clear hk
    go_wp2_with (fail)
    refine (hck w1 (HV.out w1 (HK.out.more fun _ _ e => e.elim)) (by omega)).mono ?_
    unfold IntPost
    rintro r w2 ⟨rfl, hk⟩
    have HK2 := Lib.hid (HK.out.trans hk fun _ _ e => e)
    clear hk hck
    go_wp2_with (fail)
    go_ret
    exact ⟨rfl, HZ.out.stay HK2.out⟩
  rw [HE.out, he]
  have HS := Lib.hid (show hear s m v = hearF s m v from if_pos (by rw [HE.out, he]))
  rw [HS.out]
  rw [he] at hck
  obtain ⟨hok, hV, r, cc, hd, hr, hs⟩ := h
  obtain ⟨i, rfl⟩ : ∃ i : Nat, m = i := ⟨m.toNat, by omega⟩
  have hi : i < 17 := by omega
  have hdm : decide (1 ≤ (i : Int) ∧ (i : Int) ≤ 16) = true := decide_eq_true hm
  have HOK := Lib.hid hok
  have HVV := Lib.hid hV
  have HS1 := Lib.hid hs
  have HV := Lib.hid hv
  have HZ := Lib.hid hr
  have HM := Lib.hid hm
  clear hok hV hs hv hr hm he
  go_enter Try.func25, Try.ntmps25
  go_wp2_with (fail)
  refine (RFsite_any w i).mono ?_
  rintro r w1 ⟨rfl, hk⟩
  rw [hdm]
  have HK := Lib.hid hk
  have HZ1 := Lib.hid (HZ.out.fresh hk)
  clear hk
  go_wp2_with (fail)
  refine (hck w1 (HV.out w1 (HK.out.more fun _ _ e => e.elim)) (by omega)).mono ?_
  unfold IntPost
  rintro r w2 ⟨rfl, hk⟩
  have HK2 := Lib.hid (HK.out.trans hk fun _ _ e => e)
  have HZ2 := Lib.hid (HZ1.out.fresh hk)
  clear hk hck HZ1 HK HZ hdm
  have f0 := HZ2.out.box.frozen (34 + i)
  have x0 : w2.cell? ⟨g, 34 + i, none⟩ = some (.bool (hd i)) := by rw [HZ2.out.box.cell]; exact rfCells_z _ _ _ hi
  have HB := Lib.hid (show Box (w2.setCell ⟨g, 34 + i, none⟩ (.bool true)) g 59 (rfCells (fun j => (r j).v) (fun j => (cc j).v) (upd (fun j => .bool (hd j)) i (.bool true))) by rw [← rfCells_setz _ _ _ hi]; exact HZ2.out.box.set (34 + i) (.bool true))
  have HKA := Lib.hid ((Kept.refl (fun k => k = g) w2).at (g := g) (34 + i) (.bool true) (.inl rfl))
  have hi0 : (0 : Int) ≤ (i : Int) := by omega
  have hin : (i : Int) < 17 := by omega
  go_upto_region 7 with (fail)
  generalize w2.setCell ⟨g, 34 + i, none⟩ (.bool true) = w3 at HB HKA ⊢
  clear f0 x0
  have HBW := Lib.hid (show Box w3.drew g 59 (rfCells (upd (fun j => (r j).v) i (r i).v) (fun j => (cc j).v) (upd (fun j => .bool (hd j)) i (.bool true))) by rw [upd_id]; exact HB.out)
  refine wp_region_held_drew (S := fun Wz => Kept (fun k => k = g) w2 Wz ∧ ∃ u, Box Wz g 59 (rfCells (upd (fun j => (r j).v) i u) (fun j => (cc j).v) (upd (fun j => .bool (hd j)) i (.bool true)))) (by kernel_rfl) ⟨HKA.out.drew, _, HBW.out⟩ fun hS => ?_
  clear HB HKA
  generalize w3.drew = W at hS HBW ⊢
  obtain ⟨⟨xl, xA, xc⟩, hx⟩ : ∃ x, r i = x := ⟨_, rfl⟩
  have HX := Lib.hid hx
  rw [hx] at HBW
  clear hx
  refine held_takeTo 21 (i := 0) (v := .pointer (some ⟨g, 0, none⟩)) rfl rfl (by kernel_rfl) (by kernel_rfl) (by kernel_rfl) (fun _ _ _ h => h) rfl hS (fun Wz hW => by go_simp) ?_
  simp only [List.setIfInBounds_toArray, List.set_cons_zero, List.set_cons_succ]
  refine held_takeTo 22 (i := 1) (v := .int .i64 (i : Int)) rfl rfl (by kernel_rfl) (by kernel_rfl) (by kernel_rfl) (fun _ _ _ h => h) rfl hS (fun Wz hW => by go_simp) ?_
  simp only [List.setIfInBounds_toArray, List.set_cons_zero, List.set_cons_succ]
  refine held_takeTo 23 (i := 2) (v := .pointer (some ⟨g, 0, none⟩)) rfl rfl (by kernel_rfl) (by kernel_rfl) (by kernel_rfl) (fun _ _ _ h => h) rfl hS (fun Wz hW => by go_simp) ?_
  simp only [List.setIfInBounds_toArray, List.set_cons_zero, List.set_cons_succ]
  refine held_takeTo 24 (i := 3) (v := .int .i64 (i : Int)) rfl rfl (by kernel_rfl) (by kernel_rfl) (by kernel_rfl) (fun _ _ _ h => h) rfl hS (fun Wz hW => by go_simp) ?_
  simp only [List.setIfInBounds_toArray, List.set_cons_zero, List.set_cons_succ]
  refine held_takeTo 29 (i := 8) (v := .slice A v.length c) rfl rfl (by kernel_rfl) (by kernel_rfl) (by kernel_rfl) (fun _ _ _ h => h) rfl hS (fun Wz hW => by go_simp) ?_
  simp only [List.setIfInBounds_toArray, List.set_cons_zero, List.set_cons_succ]
  refine held_takeTo 25 (i := 4) (v := .pointer (some ⟨g, 0, none⟩)) rfl rfl (by kernel_rfl) (by kernel_rfl) (by kernel_rfl) (fun _ _ _ h => h) rfl hS (fun Wz hW => by go_simp) ?_
  simp only [List.setIfInBounds_toArray, List.set_cons_zero, List.set_cons_succ]
  refine held_takeTo 26 (i := 5) (v := .pointer (some ⟨g, 0, none⟩)) rfl rfl (by kernel_rfl) (by kernel_rfl) (by kernel_rfl) (fun _ _ _ h => h) rfl hS (fun Wz hW => by go_simp) ?_
  simp only [List.setIfInBounds_toArray, List.set_cons_zero, List.set_cons_succ]
  refine held_takeTo 27 (i := 6) (v := .pointer (some ⟨g, i, none⟩)) rfl rfl (by kernel_rfl) (by kernel_rfl) (by kernel_rfl) (fun _ _ _ h => h) rfl hS (fun Wz hW => by go_simp) ?_
  simp only [List.setIfInBounds_toArray, List.set_cons_zero, List.set_cons_succ]
  have HXD := Lib.hid (DotsAt.of_own ((hS.1.own (HZ2.out.r i hi).1 fun k e e2 => own_box_ne (HZ2.out.r i hi).1 HZ2.out.box (by decide) (e.trans (congrArg some e2)))))
  rw [HX.out] at HXD
  have HXE := Lib.hid (show xl = rowF s i by have h1 := HS1.out.r i hi; rw [HX.out] at h1; exact h1)
  have HXL := Lib.hid (show xl.length ≤ 4611686018427387904 by have h2 := rowF_len HOK.out i; rw [← HXE.out] at h2; omega)
  have HVW := Lib.hid (HV.out W ((HK2.out.more fun _ _ e => e.elim).trans hS.1 fun k _ e => by rw [e]; exact HZ2.out.fg))
  have HSZ := Lib.hid (show w2.heap.size ≤ W.heap.size from hS.1.size)
  have HLINK := Lib.hid (fun A1 c1 => HS1.out.hear v i hi (x := ⟨joinD xl v, A1, c1⟩) (by show joinD xl v = _; rw [HXE.out]))
  refine held_two (i := 7) (j := 10) (by kernel_rfl) rfl rfl ?_ ?_
  · as_aux_lemma =>
    intro K hK
    have x7 : W.cell? ⟨g, i, none⟩ = some (.slice xA xl.length xc) := (HBW.out.cell i).trans ((rfCells_x _ _ _ hi).trans (congrArg some (upd_same _ _ _)))
    go_wp2_with (fail)
    refine hK.out _ _ hS fun _ => ?_
    clear hK K x7
    refine held_two (i := 9) (j := 10) (by kernel_rfl) rfl rfl ?_ ?_
    · as_aux_lemma =>
      intro K hK
      go_wp2_with (fail)
      refine (RMerge_any xA A xl v xc c W HXD.out HVW.out HXL.out (by omega)).mono ?_
      rintro r' W1 ⟨A1, c1, rfl, ho, hk⟩
      have HO1 := Lib.hid (own_base ho HSZ.out)
      have HBW1 := Lib.hid (HBW.out.kept hk id)
      have hS1 : Kept (fun k => k = g) w2 W1 ∧ ∃ u, Box W1 g 59 (rfCells (upd (fun j => (r j).v) i u) (fun j => (cc j).v) (upd (fun j => .bool (hd j)) i (.bool true))) := ⟨hS.1.trans hk fun _ _ e => e.elim, _, HBW1.out⟩
      clear ho hk
      go_wp2_with (fail)
      refine hK.out _ _ hS1 fun _ => ?_
      clear hK K hS HBW
      refine held_one (i := 10) (by kernel_rfl) rfl fun K hK => ?_
      go_wp2_with (fail)
      refine hK.out _ _ hS1 fun _ => ?_
      clear hK K
      refine held_takeTo 32 (i := 11) (v := .pointer (some ⟨g, 0, none⟩)) rfl rfl (by kernel_rfl) (by kernel_rfl) (by kernel_rfl) (fun _ _ _ h => h) rfl hS1 (fun Wz hW => by go_simp) ?_
      simp only [List.setIfInBounds_toArray, List.set_cons_zero, List.set_cons_succ]
      refine held_takeTo 33 (i := 12) (v := .pointer (some ⟨g, i, none⟩)) rfl rfl (by kernel_rfl) (by kernel_rfl) (by kernel_rfl) (fun _ _ _ h => h) rfl hS1 (fun Wz hW => by go_simp) ?_
      simp only [List.setIfInBounds_toArray, List.set_cons_zero, List.set_cons_succ]
      refine held_one (i := 13) (by kernel_rfl) rfl fun K hK => ?_
      have f0 := HBW1.out.frozen i
      have x0 : W1.cell? ⟨g, i, none⟩ = some (.slice xA xl.length xc) := (HBW1.out.cell i).trans ((rfCells_x _ _ _ hi).trans (congrArg some (upd_same _ _ _)))
      have hbf := HBW1.out.set i (.slice A1 (joinD xl v).length c1)
      rw [rfCells_setx _ _ _ hi, upd_twice] at hbf
      have HBF := Lib.hid hbf
      have hka := (Kept.refl (fun k => k = g) W1).at (g := g) i (.slice A1 (joinD xl v).length c1) (.inl rfl)
      have hkf := hS1.1.trans hka fun _ _ e => e
      have HOF := Lib.hid (hka.own HO1.out fun k e e2 => own_box_ne HO1.out HBW1.out (by decide) (by rw [e, e2]))
      have HAT := Lib.hid (HZ2.out.heard i ⟨joinD xl v, A1, c1⟩ hkf HBF.out HOF.out)
      have HKF := Lib.hid hkf
      have hSF : Kept (fun k => k = g) w2 (W1.setCell ⟨g, i, none⟩ (.slice A1 (joinD xl v).length c1)) ∧ ∃ u, Box (W1.setCell ⟨g, i, none⟩ (.slice A1 (joinD xl v).length c1)) g 59 (rfCells (upd (fun j => (r j).v) i u) (fun j => (cc j).v) (upd (fun j => .bool (hd j)) i (.bool true))) := ⟨hkf, _, HBF.out⟩
      clear hka hkf hbf HO1 HBW1
      go_wp2_with (fail)
      refine hK.out _ _ hSF fun _ => ?_
      clear hK K f0 x0 hSF
      refine wpAnyH_done (by kernel_rfl) ?_ _
      go_wp2_with (fail)
      go_ret
      refine ⟨rfl, _, ⟨HOK.out.hearF HM.out v, HVV.out.hearF i v, _, _, _, HAT.out.1, HLINK.out A1 c1⟩, fun k e => e.imp id fun e => ?_, (HK2.out.more fun _ _ e => e.elim).trans HAT.out.2 fun _ _ e => e⟩
      have h1 := (HOF.out.lt k e).1
      have h2 := HK2.out.size
      omega
    · as_aux_lemma =>
      intro K hK
      go_wp2_with (fail)
      refine hK.out _ _ hS fun _ => ?_
      clear hK K
      refine held_takeTo 32 (i := 11) (v := .pointer (some ⟨g, 0, none⟩)) rfl rfl (by kernel_rfl) (by kernel_rfl) (by kernel_rfl) (fun _ _ _ h => h) rfl hS (fun Wz hW => by go_simp) ?_
      simp only [List.setIfInBounds_toArray, List.set_cons_zero, List.set_cons_succ]
      refine held_one (i := 9) (by kernel_rfl) rfl fun K hK => ?_
      go_wp2_with (fail)
      refine (RMerge_any xA A xl v xc c W HXD.out HVW.out HXL.out (by omega)).mono ?_
      rintro r' W1 ⟨A1, c1, rfl, ho, hk⟩
      have HO1 := Lib.hid (own_base ho HSZ.out)
      have HBW1 := Lib.hid (HBW.out.kept hk id)
      have hS1 : Kept (fun k => k = g) w2 W1 ∧ ∃ u, Box W1 g 59 (rfCells (upd (fun j => (r j).v) i u) (fun j => (cc j).v) (upd (fun j => .bool (hd j)) i (.bool true))) := ⟨hS.1.trans hk fun _ _ e => e.elim, _, HBW1.out⟩
      clear ho hk
      go_wp2_with (fail)
      refine hK.out _ _ hS1 fun _ => ?_
      clear hK K hS HBW
      refine held_takeTo 33 (i := 12) (v := .pointer (some ⟨g, i, none⟩)) rfl rfl (by kernel_rfl) (by kernel_rfl) (by kernel_rfl) (fun _ _ _ h => h) rfl hS1 (fun Wz hW => by go_simp) ?_
      simp only [List.setIfInBounds_toArray, List.set_cons_zero, List.set_cons_succ]
      refine held_one (i := 13) (by kernel_rfl) rfl fun K hK => ?_
      have f0 := HBW1.out.frozen i
      have x0 : W1.cell? ⟨g, i, none⟩ = some (.slice xA xl.length xc) := (HBW1.out.cell i).trans ((rfCells_x _ _ _ hi).trans (congrArg some (upd_same _ _ _)))
      have hbf := HBW1.out.set i (.slice A1 (joinD xl v).length c1)
      rw [rfCells_setx _ _ _ hi, upd_twice] at hbf
      have HBF := Lib.hid hbf
      have hka := (Kept.refl (fun k => k = g) W1).at (g := g) i (.slice A1 (joinD xl v).length c1) (.inl rfl)
      have hkf := hS1.1.trans hka fun _ _ e => e
      have HOF := Lib.hid (hka.own HO1.out fun k e e2 => own_box_ne HO1.out HBW1.out (by decide) (by rw [e, e2]))
      have HAT := Lib.hid (HZ2.out.heard i ⟨joinD xl v, A1, c1⟩ hkf HBF.out HOF.out)
      have HKF := Lib.hid hkf
      have hSF : Kept (fun k => k = g) w2 (W1.setCell ⟨g, i, none⟩ (.slice A1 (joinD xl v).length c1)) ∧ ∃ u, Box (W1.setCell ⟨g, i, none⟩ (.slice A1 (joinD xl v).length c1)) g 59 (rfCells (upd (fun j => (r j).v) i u) (fun j => (cc j).v) (upd (fun j => .bool (hd j)) i (.bool true))) := ⟨hkf, _, HBF.out⟩
      clear hka hkf hbf HO1 HBW1
      go_wp2_with (fail)
      refine hK.out _ _ hSF fun _ => ?_
      clear hK K f0 x0 hSF
      refine wpAnyH_done (by kernel_rfl) ?_ _
      go_wp2_with (fail)
      go_ret
      refine ⟨rfl, _, ⟨HOK.out.hearF HM.out v, HVV.out.hearF i v, _, _, _, HAT.out.1, HLINK.out A1 c1⟩, fun k e => e.imp id fun e => ?_, (HK2.out.more fun _ _ e => e.elim).trans HAT.out.2 fun _ _ e => e⟩
      have h1 := (HOF.out.lt k e).1
      have h2 := HK2.out.size
      omega
  · as_aux_lemma =>
    intro K hK
    go_wp2_with (fail)
    refine hK.out _ _ hS fun _ => ?_
    clear hK K
    refine held_takeTo 32 (i := 11) (v := .pointer (some ⟨g, 0, none⟩)) rfl rfl (by kernel_rfl) (by kernel_rfl) (by kernel_rfl) (fun _ _ _ h => h) rfl hS (fun Wz hW => by go_simp) ?_
    simp only [List.setIfInBounds_toArray, List.set_cons_zero, List.set_cons_succ]
    refine held_one (i := 7) (by kernel_rfl) rfl fun K hK => ?_
    have x7 : W.cell? ⟨g, i, none⟩ = some (.slice xA xl.length xc) := (HBW.out.cell i).trans ((rfCells_x _ _ _ hi).trans (congrArg some (upd_same _ _ _)))
    go_wp2_with (fail)
    refine hK.out _ _ hS fun _ => ?_
    clear hK K x7
    refine held_one (i := 9) (by kernel_rfl) rfl fun K hK => ?_
    go_wp2_with (fail)
    refine (RMerge_any xA A xl v xc c W HXD.out HVW.out HXL.out (by omega)).mono ?_
    rintro r' W1 ⟨A1, c1, rfl, ho, hk⟩
    have HO1 := Lib.hid (own_base ho HSZ.out)
    have HBW1 := Lib.hid (HBW.out.kept hk id)
    have hS1 : Kept (fun k => k = g) w2 W1 ∧ ∃ u, Box W1 g 59 (rfCells (upd (fun j => (r j).v) i u) (fun j => (cc j).v) (upd (fun j => .bool (hd j)) i (.bool true))) := ⟨hS.1.trans hk fun _ _ e => e.elim, _, HBW1.out⟩
    clear ho hk
    go_wp2_with (fail)
    refine hK.out _ _ hS1 fun _ => ?_
    clear hK K hS HBW
    refine held_takeTo 33 (i := 12) (v := .pointer (some ⟨g, i, none⟩)) rfl rfl (by kernel_rfl) (by kernel_rfl) (by kernel_rfl) (fun _ _ _ h => h) rfl hS1 (fun Wz hW => by go_simp) ?_
    simp only [List.setIfInBounds_toArray, List.set_cons_zero, List.set_cons_succ]
    refine held_one (i := 13) (by kernel_rfl) rfl fun K hK => ?_
    have f0 := HBW1.out.frozen i
    have x0 : W1.cell? ⟨g, i, none⟩ = some (.slice xA xl.length xc) := (HBW1.out.cell i).trans ((rfCells_x _ _ _ hi).trans (congrArg some (upd_same _ _ _)))
    have hbf := HBW1.out.set i (.slice A1 (joinD xl v).length c1)
    rw [rfCells_setx _ _ _ hi, upd_twice] at hbf
    have HBF := Lib.hid hbf
    have hka := (Kept.refl (fun k => k = g) W1).at (g := g) i (.slice A1 (joinD xl v).length c1) (.inl rfl)
    have hkf := hS1.1.trans hka fun _ _ e => e
    have HOF := Lib.hid (hka.own HO1.out fun k e e2 => own_box_ne HO1.out HBW1.out (by decide) (by rw [e, e2]))
    have HAT := Lib.hid (HZ2.out.heard i ⟨joinD xl v, A1, c1⟩ hkf HBF.out HOF.out)
    have HKF := Lib.hid hkf
    have hSF : Kept (fun k => k = g) w2 (W1.setCell ⟨g, i, none⟩ (.slice A1 (joinD xl v).length c1)) ∧ ∃ u, Box (W1.setCell ⟨g, i, none⟩ (.slice A1 (joinD xl v).length c1)) g 59 (rfCells (upd (fun j => (r j).v) i u) (fun j => (cc j).v) (upd (fun j => .bool (hd j)) i (.bool true))) := ⟨hkf, _, HBF.out⟩
    clear hka hkf hbf HO1 HBW1
    go_wp2_with (fail)
    refine hK.out _ _ hSF fun _ => ?_
    clear hK K f0 x0 hSF
    refine wpAnyH_done (by kernel_rfl) ?_ _
    go_wp2_with (fail)
    go_ret
    refine ⟨rfl, _, ⟨HOK.out.hearF HM.out v, HVV.out.hearF i v, _, _, _, HAT.out.1, HLINK.out A1 c1⟩, fun k e => e.imp id fun e => ?_, (HK2.out.more fun _ _ e => e.elim).trans HAT.out.2 fun _ _ e => e⟩
    have h1 := (HOF.out.lt k e).1
    have h2 := HK2.out.size
    omega
end Go.Proofs.Ythlejmpeigfdgaa
