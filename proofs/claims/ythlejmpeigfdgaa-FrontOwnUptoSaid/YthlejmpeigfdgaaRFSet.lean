/- The walk of the reference's Settle. Conditions: the Front and the list lie in memory. -/
import Derived.Test.YthlejmpeigfdgaaRFHear
namespace Go.Proofs.Ythlejmpeigfdgaa
open Go Go.RowKit

/-- What counts of a row is written. -/
theorem RfAt.count {w w' : World} {g : Nat} {F : Nat → Prop} {r c : Nat → Rs} {hd : Nat → Bool} (h : RfAt w g F r c hd) (i : Nat) (x : Rs) (hk : Kept (fun k => k = g) w w')
    (hb : Box w' g 59 (rfCells (fun j => (r j).v) (upd (fun j => (c j).v) i x.v) (fun j => .bool (hd j)))) (hx : w'.ownsRow w.heap.size 56 2 x.v x.l.length (dots x.l)) :
    RfAt w' g (fun k => F k ∨ x.v.ownBlock = some k) r (upd c i x) hd ∧ Kept F w w' := by
  have ne : ∀ {y : Rs}, w.ownsRow 0 56 2 y.v y.l.length (dots y.l) → ∀ k, y.v.ownBlock = some k → k ≠ g := fun ho k e e2 => own_box_ne ho h.box (by decide) (by rw [e, e2])
  refine ⟨⟨?_, fun j hj => ?_, fun j hj => ?_, .inl h.fg, fun k e => e.elim (fun e => Nat.lt_of_lt_of_le (h.lt k e) hk.size) fun e => (hx.lt k e).2⟩, hk.more fun k _ e => by rw [e]; exact h.fg⟩
  · rw [upd_val]; exact hb
  · exact ⟨hk.own (h.r j hj).1 fun k e => ne (h.r j hj).1 k e, fun k e => .inl ((h.r j hj).2 k e)⟩
  · unfold upd
    split
    · exact ⟨own_base hx (Nat.zero_le _), fun k e => .inr e⟩
    · exact ⟨hk.own (h.c j hj).1 fun k e => ne (h.c j hj).1 k e, fun k e => .inl ((h.c j hj).2 k e)⟩
/-- What counts of site j when the sites below k are settled. -/
def cntTo (s : List Fp) (own : List Dt) (k j : Nat) : List Dt := if j < k ∧ heardF s j = true ∧ coversR (says own) (says (rowF s j)) = true then rowF s j else usableF s j
theorem cntTo_one {s : List Fp} (h : FsOk s) (own : List Dt) (j : Nat) : cntTo s own 1 j = usableF s j := by
  unfold cntTo
  rw [if_neg]
  rintro ⟨h1, h2, -⟩
  obtain rfl : j = 0 := by omega
  rw [heardF_site h (by omega)] at h2
  cases h2
theorem cntTo_yes {s : List Fp} {own : List Dt} {k j : Nat} (h1 : heardF s k = true) (h2 : coversR (says own) (says (rowF s k)) = true) : cntTo s own (k + 1) j = if j = k then rowF s k else cntTo s own k j := by
  unfold cntTo
  by_cases e : j = k
  · subst e; rw [if_pos rfl, if_pos ⟨by omega, h1, h2⟩]
  · rw [if_neg e]
    by_cases hlt : j < k
    · simp only [hlt, show j < k + 1 by omega, true_and]
    · rw [if_neg (fun h => by omega), if_neg (fun h => by omega)]
theorem cntTo_no {s : List Fp} {own : List Dt} {k j : Nat} (h : ¬ (heardF s k = true ∧ coversR (says own) (says (rowF s k)) = true)) : cntTo s own (k + 1) j = cntTo s own k j := by
  unfold cntTo
  by_cases e : j = k
  · subst e; rw [if_neg fun h' => h h'.2, if_neg fun h' => h h'.2]
  · by_cases hlt : j < k
    · simp only [hlt, show j < k + 1 by omega, true_and]
    · rw [if_neg (fun h => by omega), if_neg (fun h => by omega)]
theorem RfOf.settled {s : List Fp} {own : List Dt} {r c c' : Nat → Rs} {hd : Nat → Bool} (h : RfOf s r c hd) (hc : ∀ j, j < 17 → (c' j).l = cntTo s own 17 j) : RfOf (s.map (Fp.settled own)) r c' hd := by
  refine ⟨fun j hj => by rw [rowF_settled]; exact h.r j hj, fun j hj => ?_, fun j hj => by rw [heardF_settled]; exact h.h j hj⟩
  rw [hc j hj, usableF_settled]
  unfold cntTo
  simp only [hj, true_and]
set_option maxRecDepth 100000 in
set_option maxHeartbeats 3200000 in
theorem RFSettle_any (g : Nat) (F : Nat → Prop) (s : List Fp) (w : World) (h : RfS w g F s) (A : Option Addr) (v : List Dt) (c : Nat) (hv : ∀ W, Kept F w W → DotsAt W A v) (hl : v.length ≤ 1000000) :
    Calls Try.prog 26 #[.pointer (some ⟨g, 0, none⟩), .slice A v.length c] w (fun r w' => (∃ u, r = .returned u) ∧ RfPost w g F (settle s v) w') := by
  have hck := RCheck_any A v c w (hv w (Kept.refl _ _)) (by omega)
  by_cases he : checkV v = 0
  case neg =>
    as_aux_lemma =>
    have HS := Lib.hid (show settle s v = s from if_neg he)
    rw [HS.out]
    obtain ⟨e, hee⟩ : ∃ e, checkV v = e := ⟨_, rfl⟩
    rw [hee] at he hck
    have hb : (e != 0) = true := by simp [he]
    have HZ := Lib.hid h
    clear h hv hee he
    go_enter Try.func26, Try.ntmps26
    go_wp2_with (fail)
    refine hck.mono ?_
    unfold IntPost
    rintro r w1 ⟨rfl, hk⟩
    have HK := Lib.hid hk
    clear hk
    go_wp2_with (fail)
    refine bodyPost_ret (results_none rfl _ _ _) rfl ?_
    exact ⟨⟨_, rfl⟩, HZ.out.stay HK.out⟩
  rw [he] at hck
  have HS := Lib.hid (show settle s v = s.map (Fp.settled v) from if_pos he)
  obtain ⟨hok, hV, r, cc, hd, hr, hs⟩ := h
  have HOK := Lib.hid (show FsOk (settle s v) from hok.settle v)
  have HVV := Lib.hid (show FsV (settle s v) from hV.settle v)
  have HVR := Lib.hid (fun m => hV.row m)
  have HRL := Lib.hid (fun m => rowF_len hok m)
  have HS1 := Lib.hid hs
  have HV := Lib.hid hv
  have HZ := Lib.hid hr
  have HC1 := Lib.hid (fun j => cntTo_one hok v j)
  clear hok hV hs hv hr he
  go_enter Try.func26, Try.ntmps26
  go_wp2_with (fail)
  refine hck.mono ?_
  unfold IntPost
  rintro r0 w1 ⟨rfl, hk⟩
  have HK := Lib.hid hk
  have HZ1 := Lib.hid (HZ.out.fresh hk)
  clear hk hck HZ
  go_wp2_with (fail)
  go_loopw [4] (fun n wr => ∃ (k : Nat) (F' : Nat → Prop) (c' : Nat → Rs), n = .int .i64 k ∧ 1 ≤ k ∧ k ≤ 17 ∧ RfAt wr g F' r c' hd ∧ (∀ j, j < 17 → (c' j).l = cntTo s v k j) ∧ (∀ j, F' j → F j ∨ w1.heap.size ≤ j) ∧ Kept F w1 wr) (fun n _ => 17 - (intOf n).toNat)
  case atStart => exact ⟨1, F, cc, rfl, by omega, by omega, HZ1.out, fun j hj => by rw [HC1.out]; exact HS1.out.c j hj, fun j e => .inl e, Kept.refl _ _⟩
  case round =>
    obtain ⟨k, F', c', rfl, hk1, hk, hat, hcnt, hF', hkk⟩ := hrel
    have HAT := Lib.hid hat
    have HCN := Lib.hid hcnt
    have HF2 := Lib.hid hF'
    have HKK := Lib.hid hkk
    clear hat hcnt hF' hkk HZ1
    by_cases hlt : k < 17
    case neg =>
      as_aux_lemma =>
      obtain rfl : k = 17 := by omega
      go_wp2_with (fail)
      go_end0
      exact ⟨⟨_, rfl⟩, F', ⟨HOK.out, HVV.out, r, c', hd, HAT.out, by rw [HS.out]; exact HS1.out.settled HCN.out⟩, fun j e => (HF2.out j e).imp id fun e => by have := HK.out.size; omega, (HK.out.more fun _ _ e => e.elim).trans HKK.out fun _ _ e => e⟩
    have hi0 : (0 : Int) ≤ (k : Int) := by omega
    have hin : (k : Int) < 17 := by omega
    have hle : (k : Int) ≤ 16 := by omega
    have x1 : wr.cell? ⟨g, 34 + k, none⟩ = some (.bool (hd k)) := by rw [HAT.out.box.cell]; exact rfCells_z _ _ _ hlt
    have x2 : wr.cell? ⟨g, k, none⟩ = some (r k).v := by rw [HAT.out.box.cell]; exact rfCells_x _ _ _ hlt
    have HHD := Lib.hid (HS1.out.h k hlt)
    have HXE := Lib.hid (HS1.out.r k hlt)
    have HXO := Lib.hid (HAT.out.r k hlt).1
    obtain ⟨⟨xl, xA, xc⟩, hx⟩ : ∃ x, r k = x := ⟨_, rfl⟩
    have HX := Lib.hid hx
    rw [hx] at x2 HXE HXO
    obtain ⟨b, hb⟩ : ∃ b, hd k = b := ⟨_, rfl⟩
    rw [hb] at x1 HHD
    clear hx hb
    have HXL := Lib.hid (show xl.length ≤ 17 by have := HRL.out k; rw [← HXE.out] at this; exact this)
    have HXC := Lib.hid (show checkV xl = 0 by have := HVR.out k; rw [← HXE.out] at this; exact this)
    have y2 : wr.cell? ⟨g, k, none⟩ = some (.slice xA xl.length xc) := x2
    clear x2
    cases b with
    | false =>
      as_aux_lemma =>
      go_wp2_with (fail)
      go_roundw
      case rel => exact ⟨k + 1, F', c', by go_num, by omega, by omega, HAT.out, fun j hj => by rw [cntTo_no (fun e => by rw [← HHD.out] at e; cases e.1)]; exact HCN.out j hj, HF2.out, HKK.out⟩
      case measure => simp [intOf]; omega
    | true =>
    have hco := RCovers_any A xA v xl c xc wr (HV.out wr ((HK.out.more fun _ _ e => e.elim).trans HKK.out fun _ _ e => e)) (DotsAt.of_own HXO.out) (by omega) (by have := HXL.out; omega)
    obtain ⟨cv, hcv⟩ : ∃ cv, coversR (says v) (says xl) = cv := ⟨_, rfl⟩
    rw [hcv] at hco
    have HCV := Lib.hid (show coversR (says v) (says (rowF s k)) = cv by rw [← HXE.out]; exact hcv)
    clear hcv
    cases cv with
    | false =>
      as_aux_lemma =>
      go_wp2_with (fail)
      refine hco.mono ?_
      unfold BoolPost
      rintro r1 w2 ⟨rfl, hk2⟩
      have HAT2 := Lib.hid (HAT.out.fresh hk2)
      have HK2 := Lib.hid (HKK.out.trans hk2 fun _ _ e => e.elim)
      clear hco hk2 x1 y2
      go_wp2_with (fail)
      go_roundw
      case rel => exact ⟨k + 1, F', c', by go_num, by omega, by omega, HAT2.out, fun j hj => by rw [cntTo_no (fun e => by rw [HCV.out] at e; cases e.2)]; exact HCN.out j hj, HF2.out, HK2.out⟩
      case measure => simp [intOf]; omega
    | true =>
      as_aux_lemma =>
      go_wp2_with (fail)
      refine hco.mono ?_
      unfold BoolPost
      rintro r1 w2 ⟨rfl, hk2⟩
      have HAT2 := Lib.hid (HAT.out.fresh hk2)
      have HK2 := Lib.hid (HKK.out.trans hk2 fun _ _ e => e.elim)
      have HXO2 := Lib.hid (hk2.own HXO.out fun _ _ => id)
      clear hco hk2 x1 y2
      go_upto_region 5 with (fail)
      have HBW := Lib.hid (show Box w2.drew g 59 (rfCells (fun j => (r j).v) (upd (fun j => (c' j).v) k (c' k).v) (fun j => .bool (hd j))) by rw [upd_id]; exact HAT2.out.box)
      refine wp_region_held_drew (S := fun Wz => Kept (fun k => k = g) w2 Wz ∧ ∃ u, Box Wz g 59 (rfCells (fun j => (r j).v) (upd (fun j => (c' j).v) k u) (fun j => .bool (hd j)))) (by kernel_rfl) ⟨(Kept.refl _ w2).drew, _, HBW.out⟩ fun hS => ?_
      generalize w2.drew = W at hS HBW ⊢
      refine held_takeTo 28 (i := 0) (v := .pointer (some ⟨g, 0, none⟩)) rfl rfl (by kernel_rfl) (by kernel_rfl) (by kernel_rfl) (fun _ _ _ h => h) rfl hS (fun Wz hW => by go_simp) ?_
      simp only [List.setIfInBounds_toArray, List.set_cons_zero, List.set_cons_succ]
      refine held_takeTo 29 (i := 1) (v := .int .i64 (k : Int)) rfl rfl (by kernel_rfl) (by kernel_rfl) (by kernel_rfl) (fun _ _ _ h => h) rfl hS (fun Wz hW => by go_simp) ?_
      simp only [List.setIfInBounds_toArray, List.set_cons_zero, List.set_cons_succ]
      refine held_takeTo 30 (i := 2) (v := .pointer (some ⟨g, 0, none⟩)) rfl rfl (by kernel_rfl) (by kernel_rfl) (by kernel_rfl) (fun _ _ _ h => h) rfl hS (fun Wz hW => by go_simp) ?_
      simp only [List.setIfInBounds_toArray, List.set_cons_zero, List.set_cons_succ]
      refine held_takeTo 31 (i := 3) (v := .int .i64 (k : Int)) rfl rfl (by kernel_rfl) (by kernel_rfl) (by kernel_rfl) (fun _ _ _ h => h) rfl hS (fun Wz hW => by go_simp) ?_
      simp only [List.setIfInBounds_toArray, List.set_cons_zero, List.set_cons_succ]
      refine held_takeTo 32 (i := 4) (v := .pointer (some ⟨g, 0, none⟩)) rfl rfl (by kernel_rfl) (by kernel_rfl) (by kernel_rfl) (fun _ _ _ h => h) rfl hS (fun Wz hW => by go_simp) ?_
      simp only [List.setIfInBounds_toArray, List.set_cons_zero, List.set_cons_succ]
      refine held_takeTo 33 (i := 5) (v := .pointer (some ⟨g, 0, none⟩)) rfl rfl (by kernel_rfl) (by kernel_rfl) (by kernel_rfl) (fun _ _ _ h => h) rfl hS (fun Wz hW => by go_simp) ?_
      simp only [List.setIfInBounds_toArray, List.set_cons_zero, List.set_cons_succ]
      refine held_takeTo 34 (i := 6) (v := .pointer (some ⟨g, k, none⟩)) rfl rfl (by kernel_rfl) (by kernel_rfl) (by kernel_rfl) (fun _ _ _ h => h) rfl hS (fun Wz hW => by go_simp) ?_
      simp only [List.setIfInBounds_toArray, List.set_cons_zero, List.set_cons_succ]
      refine held_takeTo 35 (i := 7) (v := .slice xA xl.length xc) rfl rfl (by kernel_rfl) (by kernel_rfl) (by kernel_rfl) (fun _ _ _ h => h) rfl hS (fun Wz hW => by (obtain ⟨u, hu⟩ := hW.2; have hc : Wz.cell? ⟨g, k, none⟩ = some (.slice xA xl.length xc) := (hu.cell k).trans ((rfCells_x _ _ _ hlt).trans (congrArg (fun y : Rs => some y.v) HX.out)); clear hu; go_simp)) ?_
      simp only [List.setIfInBounds_toArray, List.set_cons_zero, List.set_cons_succ]
      have HSZ := Lib.hid (show w2.heap.size ≤ W.heap.size from hS.1.size)
      have HMG := Lib.hid (show Calls Try.prog 44 #[.slice xA xl.length xc, .slice none 0 0] W (FreshDots W xl) by
        have := RMerge_any xA none xl [] xc 0 W (DotsAt.of_own (hS.1.own HXO2.out fun k e e2 => own_box_ne HXO2.out HAT2.out.box (by decide) (e.trans (congrArg some e2)))) DotsAt.nil (by have := HXL.out; omega) (by simp)
        rw [merge_nil HXC.out] at this
        exact this)
      refine held_two (i := 8) (j := 9) (by kernel_rfl) rfl rfl ?_ ?_
      · as_aux_lemma =>
        intro K hK
        go_wp2_with (fail)
        refine (HMG.out).mono ?_
        rintro r' W1 ⟨A1, c1, rfl, ho, hk⟩
        have HO1 := Lib.hid (own_base ho HSZ.out)
        have HBW1 := Lib.hid (HBW.out.kept hk id)
        have hS1 : Kept (fun k => k = g) w2 W1 ∧ ∃ u, Box W1 g 59 (rfCells (fun j => (r j).v) (upd (fun j => (c' j).v) k u) (fun j => .bool (hd j))) := ⟨hS.1.trans hk fun _ _ e => e.elim, _, HBW1.out⟩
        clear ho hk
        go_wp2_with (fail)
        refine hK.out _ _ hS1 fun _ => ?_
        clear hK K hS HBW HMG
        refine held_one (i := 9) (by kernel_rfl) rfl fun K hK => ?_
        go_wp2_with (fail)
        refine hK.out _ _ hS1 fun _ => ?_
        clear hK K
        refine held_takeTo 38 (i := 10) (v := .pointer (some ⟨g, 17, none⟩)) rfl rfl (by kernel_rfl) (by kernel_rfl) (by kernel_rfl) (fun _ _ _ h => h) rfl hS1 (fun Wz hW => by go_simp) ?_
        simp only [List.setIfInBounds_toArray, List.set_cons_zero, List.set_cons_succ]
        refine held_takeTo 39 (i := 11) (v := .pointer (some ⟨g, 17 + k, none⟩)) rfl rfl (by kernel_rfl) (by kernel_rfl) (by kernel_rfl) (fun _ _ _ h => h) rfl hS1 (fun Wz hW => by go_simp) ?_
        simp only [List.setIfInBounds_toArray, List.set_cons_zero, List.set_cons_succ]
        refine held_one (i := 12) (by kernel_rfl) rfl fun K hK => ?_
        have f0 := HBW1.out.frozen (17 + k)
        have x0 : W1.cell? ⟨g, 17 + k, none⟩ = some (c' k).v := (HBW1.out.cell (17 + k)).trans ((rfCells_y _ _ _ hlt).trans (congrArg some (upd_same _ _ _)))
        have hbf := HBW1.out.set (17 + k) (.slice A1 xl.length c1)
        rw [rfCells_sety _ _ _ hlt, upd_twice] at hbf
        have HBF := Lib.hid hbf
        have hka := (Kept.refl (fun k => k = g) W1).at (g := g) (17 + k) (.slice A1 xl.length c1) (.inl rfl)
        have hkf := hS1.1.trans hka fun _ _ e => e
        have HOF := Lib.hid (hka.own HO1.out fun k e e2 => own_box_ne HO1.out HBW1.out (by decide) (by rw [e, e2]))
        have HATF := Lib.hid (HAT2.out.count k ⟨xl, A1, c1⟩ hkf HBF.out HOF.out)
        have hSF : Kept (fun k => k = g) w2 (W1.setCell ⟨g, 17 + k, none⟩ (.slice A1 xl.length c1)) ∧ ∃ u, Box (W1.setCell ⟨g, 17 + k, none⟩ (.slice A1 xl.length c1)) g 59 (rfCells (fun j => (r j).v) (upd (fun j => (c' j).v) k u) (fun j => .bool (hd j))) := ⟨hkf, _, HBF.out⟩
        clear hka hkf hbf HO1 HBW1
        generalize c' k = cy at x0
        obtain ⟨yl, yA, yc⟩ := cy
        unfold Rs.v at x0
        go_wp2_with (fail)
        refine hK.out _ _ hSF fun _ => ?_
        clear hK K f0 x0 hSF
        refine wpAnyH_done (by kernel_rfl) ?_ _
        go_wp2_with (fail)
        go_roundw
        case rel =>
          refine ⟨k + 1, _, _, by go_num, by omega, by omega, HATF.out.1, fun j hj => ?_, fun j e => ?_, HK2.out.trans HATF.out.2 fun j hj e => ?_⟩
          · rw [cntTo_yes (by rw [← HHD.out]) HCV.out]
            unfold upd
            by_cases e : j = k
            · subst e; rw [if_pos rfl, if_pos rfl]; exact HXE.out
            · rw [if_neg e, if_neg e]; exact HCN.out j hj
          · rcases e with e | e
            · exact HF2.out j e
            · have h1 := (HOF.out.lt j e).1
              exact .inr (by have := HK2.out.size; omega)
          · exact (HF2.out j e).elim id fun e => by omega
        case measure => simp [intOf]; omega
      · as_aux_lemma =>
        intro K hK
        go_wp2_with (fail)
        refine hK.out _ _ hS fun _ => ?_
        clear hK K
        refine held_takeTo 38 (i := 10) (v := .pointer (some ⟨g, 17, none⟩)) rfl rfl (by kernel_rfl) (by kernel_rfl) (by kernel_rfl) (fun _ _ _ h => h) rfl hS (fun Wz hW => by go_simp) ?_
        simp only [List.setIfInBounds_toArray, List.set_cons_zero, List.set_cons_succ]
        refine held_one (i := 8) (by kernel_rfl) rfl fun K hK => ?_
        go_wp2_with (fail)
        refine (HMG.out).mono ?_
        rintro r' W1 ⟨A1, c1, rfl, ho, hk⟩
        have HO1 := Lib.hid (own_base ho HSZ.out)
        have HBW1 := Lib.hid (HBW.out.kept hk id)
        have hS1 : Kept (fun k => k = g) w2 W1 ∧ ∃ u, Box W1 g 59 (rfCells (fun j => (r j).v) (upd (fun j => (c' j).v) k u) (fun j => .bool (hd j))) := ⟨hS.1.trans hk fun _ _ e => e.elim, _, HBW1.out⟩
        clear ho hk
        go_wp2_with (fail)
        refine hK.out _ _ hS1 fun _ => ?_
        clear hK K hS HBW HMG
        refine held_takeTo 39 (i := 11) (v := .pointer (some ⟨g, 17 + k, none⟩)) rfl rfl (by kernel_rfl) (by kernel_rfl) (by kernel_rfl) (fun _ _ _ h => h) rfl hS1 (fun Wz hW => by go_simp) ?_
        simp only [List.setIfInBounds_toArray, List.set_cons_zero, List.set_cons_succ]
        refine held_one (i := 12) (by kernel_rfl) rfl fun K hK => ?_
        have f0 := HBW1.out.frozen (17 + k)
        have x0 : W1.cell? ⟨g, 17 + k, none⟩ = some (c' k).v := (HBW1.out.cell (17 + k)).trans ((rfCells_y _ _ _ hlt).trans (congrArg some (upd_same _ _ _)))
        have hbf := HBW1.out.set (17 + k) (.slice A1 xl.length c1)
        rw [rfCells_sety _ _ _ hlt, upd_twice] at hbf
        have HBF := Lib.hid hbf
        have hka := (Kept.refl (fun k => k = g) W1).at (g := g) (17 + k) (.slice A1 xl.length c1) (.inl rfl)
        have hkf := hS1.1.trans hka fun _ _ e => e
        have HOF := Lib.hid (hka.own HO1.out fun k e e2 => own_box_ne HO1.out HBW1.out (by decide) (by rw [e, e2]))
        have HATF := Lib.hid (HAT2.out.count k ⟨xl, A1, c1⟩ hkf HBF.out HOF.out)
        have hSF : Kept (fun k => k = g) w2 (W1.setCell ⟨g, 17 + k, none⟩ (.slice A1 xl.length c1)) ∧ ∃ u, Box (W1.setCell ⟨g, 17 + k, none⟩ (.slice A1 xl.length c1)) g 59 (rfCells (fun j => (r j).v) (upd (fun j => (c' j).v) k u) (fun j => .bool (hd j))) := ⟨hkf, _, HBF.out⟩
        clear hka hkf hbf HO1 HBW1
        generalize c' k = cy at x0
        obtain ⟨yl, yA, yc⟩ := cy
        unfold Rs.v at x0
        go_wp2_with (fail)
        refine hK.out _ _ hSF fun _ => ?_
        clear hK K f0 x0 hSF
        refine wpAnyH_done (by kernel_rfl) ?_ _
        go_wp2_with (fail)
        go_roundw
        case rel =>
          refine ⟨k + 1, _, _, by go_num, by omega, by omega, HATF.out.1, fun j hj => ?_, fun j e => ?_, HK2.out.trans HATF.out.2 fun j hj e => ?_⟩
          · rw [cntTo_yes (by rw [← HHD.out]) HCV.out]
            unfold upd
            by_cases e : j = k
            · subst e; rw [if_pos rfl, if_pos rfl]; exact HXE.out
            · rw [if_neg e, if_neg e]; exact HCN.out j hj
          · rcases e with e | e
            · exact HF2.out j e
            · have h1 := (HOF.out.lt j e).1
              exact .inr (by have := HK2.out.size; omega)
          · exact (HF2.out j e).elim id fun e => by omega
        case measure => simp [intOf]; omega
end Go.Proofs.Ythlejmpeigfdgaa
