/- The walks of both Checks. Conditions: the Dots lie in memory as DotsAt says. · The walk of the reference's Check. Conditions: the Dots lie in memory as DotsAt says. · The walks of with, greater, lesser. Conditions: the Dots lie in memory as DotsAt says. -/
import Derived.Test.YtnajbkccaclkcaaGreatIM4
namespace Go.Proofs.YtnajbkccaclkcaaGreat
open Go.RowKit

theorem drop_eq {l : List Dt} {k : Nat} (h : k < l.length) : l.drop k = l[k] :: l.drop (k + 1) := List.drop_eq_getElem_cons h

set_option maxRecDepth 100000 in
set_option maxHeartbeats 1600000 in
theorem Check_any (A : Option Addr) (l : List Dt) (c : Nat) (w : World) (hl : DotsAt w A l) (hlen : l.length ≤ 4611686018427387904) :
    Calls Tryz.prog 57 #[.slice A l.length c] w (IntPost w (checkV l)) := by
  generalize hs : checkV l = res
  have HL := Lib.hid hl
  have HS := Lib.hid hs
  clear hs hl
  go_enter Tryz.func57, Tryz.ntmps57
  go_wp2_with (fail)
  go_loopw [3, 8] (fun la i wr => ∃ k : Nat, i = .int .i64 k ∧ k ≤ l.length ∧ ∃ z : Int, la = .int .i64 z ∧ checkFrom z (l.drop k) = res ∧ Kept (fun _ => False) w wr) (fun _ i _ => l.length - (intOf i).toNat)
  case atStart => exact ⟨0, rfl, Nat.zero_le _, 0, rfl, HS.out, Kept.refl _ _⟩
  case round =>
    obtain ⟨k, rfl, hk, z, rfl, hc, hkw⟩ := hrel
    have HK := Lib.hid hkw
    by_cases hlt : k < l.length
    · obtain ⟨ad, rfl, x0, x1⟩ := HL.out.fresh hkw k hlt
      rw [drop_eq hlt] at hc
      generalize hd : l[k] = d at x0 x1 hc
      have HC := Lib.hid hc
      have HX := Lib.hid (Box.new wr 59 #[.int .i64 d.site, .int .i64 d.seq])
      have HK2 := Lib.hid (HK.out.alloc (.cells #[.int .i64 d.site, .int .i64 d.seq] 59))
      clear hd hkw hc
      obtain ⟨site, seq⟩ := d
      simp only at x0 x1 HX HK2
      go_wp2_with (fail)
      generalize wr.alloc (.cells #[.int .i64 site, .int .i64 seq] 59) = W at HX HK2 ⊢
      have y0 : W.cell? ⟨wr.heap.size, 0, none⟩ = some (.int .i64 site) := by simpa using HX.out.cell 0
      have y1 : W.cell? ⟨wr.heap.size, 1, none⟩ = some (.int .i64 seq) := by simpa using HX.out.cell 1
      clear x0 x1
      cases hsi : siteB site with
      | false =>
        obtain rfl : 1 = res := by rw [← HC.out, checkFrom, if_pos hsi]
        refine (isSite_is _ false _ hsi).mono ?_
        rintro e w1 ⟨rfl, rfl⟩
        clear hsi
        go_wp2
        go_ret
        exact ⟨rfl, HK2.out⟩
      | true =>
        refine (isSite_is _ true _ hsi).mono ?_
        rintro e w1 ⟨rfl, rfl⟩
        have HSI := Lib.hid hsi
        clear hsi
        by_cases h1 : seq < 1
        · obtain rfl : 6 = res := by rw [← HC.out, checkFrom, if_neg (by rw [HSI.out]; decide), if_pos (.inl h1)]
          go_wp2
          go_ret
          exact ⟨rfl, HK2.out⟩
        · by_cases h2 : 2147483647 < seq
          · obtain rfl : 6 = res := by rw [← HC.out, checkFrom, if_neg (by rw [HSI.out]; decide), if_pos (.inr h2)]
            go_wp2
            go_ret
            exact ⟨rfl, HK2.out⟩
          · by_cases h3 : site ≤ z
            · obtain rfl : 9 = res := by rw [← HC.out, checkFrom, if_neg (by rw [HSI.out]; decide), if_neg (fun h => h.elim h1 h2), if_pos h3]
              go_wp2
              go_ret
              exact ⟨rfl, HK2.out⟩
            · have HF := Lib.hid (show checkFrom site (l.drop (k + 1)) = res by rw [← HC.out, checkFrom, if_neg (by rw [HSI.out]; decide), if_neg (fun h => h.elim h1 h2), if_neg h3])
              go_wp2
              go_roundw
              case rel => exact ⟨k + 1, by go_num, by omega, site, rfl, HF.out, HK2.out⟩
              case measure => simp [intOf]; omega
    · obtain rfl : k = l.length := by omega
      obtain rfl : 0 = res := by rw [← hc, List.drop_length]; rfl
      clear hc hkw
      go_wp2
      go_ret
      exact ⟨rfl, HK.out⟩
end Go.Proofs.YtnajbkccaclkcaaGreat

namespace Go.Proofs.YtnajbkccaclkcaaGreat
open Go.RowKit

theorem cf_site {z : Int} {d : Dt} {l : List Dt} (h : siteB d.site = false) : checkFrom z (d :: l) = 1 := by rw [checkFrom, if_pos h]
theorem cf_seq {z : Int} {d : Dt} {l : List Dt} (h : siteB d.site = true) (h1 : d.seq < 1 ∨ 2147483647 < d.seq) : checkFrom z (d :: l) = 6 := by rw [checkFrom, if_neg (by rw [h]; decide), if_pos h1]
theorem cf_order {z : Int} {d : Dt} {l : List Dt} (h : siteB d.site = true) (h1 : ¬(d.seq < 1 ∨ 2147483647 < d.seq)) (h2 : d.site ≤ z) : checkFrom z (d :: l) = 9 := by rw [checkFrom, if_neg (by rw [h]; decide), if_neg h1, if_pos h2]
theorem cf_next {z : Int} {d : Dt} {l : List Dt} (h : siteB d.site = true) (h1 : ¬(d.seq < 1 ∨ 2147483647 < d.seq)) (h2 : ¬ d.site ≤ z) : checkFrom z (d :: l) = checkFrom d.site l := by rw [checkFrom, if_neg (by rw [h]; decide), if_neg h1, if_neg h2]

set_option maxRecDepth 100000 in
set_option maxHeartbeats 3200000 in
theorem RCheck_any (A : Option Addr) (l : List Dt) (c : Nat) (w : World) (hl : DotsAt w A l) (hlen : l.length ≤ 4611686018427387904) :
    Calls Tryz.prog 31 #[.slice A l.length c] w (IntPost w (checkV l)) := by
  generalize hs : checkV l = res
  have HL := Lib.hid hl
  have HS := Lib.hid hs
  clear hs hl
  go_enter Tryz.func31, Tryz.ntmps31
  go_wp2_with (fail)
  go_loopw [3] (fun i wr => ∃ k : Nat, i = .int .i64 k ∧ k ≤ l.length ∧ ∃ z : Int, (k = 0 → z = 0) ∧ (∀ h : 0 < k, ∃ h2 : k - 1 < l.length, l[k - 1].site = z) ∧ checkFrom z (l.drop k) = res ∧ Kept (fun _ => False) w wr) (fun i _ => l.length - (intOf i).toNat)
  case atStart => exact ⟨0, rfl, Nat.zero_le _, 0, fun _ => rfl, fun h => by omega, HS.out, Kept.refl _ _⟩
  case round =>
    obtain ⟨k, rfl, hk, z, hz, hzz, hc, hkw⟩ := hrel
    have HK := Lib.hid hkw
    by_cases hlt : k < l.length
    · obtain ⟨ad, rfl, x0, x1⟩ := HL.out.fresh hkw k hlt
      rw [drop_eq hlt] at hc
      have hzc : ∀ h : 0 < k, wr.cell? (ad.add ((k - 1) * 2)) = some (.int .i64 z) := fun h => by
        obtain ⟨h2, he⟩ := hzz h
        obtain ⟨ad', e, y0, y1⟩ := HL.out.fresh hkw (k - 1) h2
        injection e with e
        rw [e, ← he]
        exact y0
      generalize hd : l[k] = d at x0 x1 hc
      have HD := Lib.hid hd
      have HC := Lib.hid hc
      have HZ := Lib.hid hz
      clear hd hkw hc hzz hz
      obtain ⟨site, seq⟩ := d
      simp only at x0 x1
      cases hsi : siteB site with
      | false =>
        obtain rfl : 1 = res := by rw [← HC.out, cf_site hsi]
        have h : site < 1 ∨ (1 ≤ site ∧ 16 < site) := by simp [siteB] at hsi; omega
        clear hsi hzc
        rcases h with h | ⟨h, h2⟩
        case' inl => have e1 : decide (site < 1) = true := decide_eq_true h
        all_goals
          go_wp2
          go_ret
          exact ⟨rfl, HK.out⟩
      | true =>
        have h : 1 ≤ site ∧ site ≤ 16 := by simpa [siteB] using hsi
        obtain ⟨p1, p2⟩ := h
        have HSI := Lib.hid hsi
        clear hsi
        by_cases h1 : seq < 1
        · obtain rfl : 6 = res := by rw [← HC.out, cf_seq HSI.out (.inl h1)]
          clear hzc
          go_wp2
          go_ret
          exact ⟨rfl, HK.out⟩
        · by_cases h2 : 2147483647 < seq
          · obtain rfl : 6 = res := by rw [← HC.out, cf_seq HSI.out (.inr h2)]
            clear hzc
            go_wp2
            go_ret
            exact ⟨rfl, HK.out⟩
          · by_cases h3 : site ≤ z
            · obtain rfl : 9 = res := by rw [← HC.out, cf_order HSI.out (fun h => h.elim h1 h2) h3]
              cases k with
              | zero => exact absurd (HZ.out rfl) (by omega)
              | succ k =>
                have y0 := hzc (by omega)
                simp only [Nat.add_sub_cancel] at y0
                clear hzc
                go_wp2_with (fail)
                go_quiet (fail)
                go_wp2
                go_ret
                exact ⟨rfl, HK.out.trans (Kept.drewN_eq nq) fun _ _ e => e⟩
            · have HF := Lib.hid (show checkFrom site (l.drop (k + 1)) = res by rw [← HC.out, cf_next HSI.out (fun h => h.elim h1 h2) h3])
              by_cases h0 : k = 0
              · have e0 : decide (0 < k) = false := decide_eq_false (by omega)
                clear hzc h0
                go_wp2_with (fail)
                go_quiet (fail)
                go_wp2
                go_roundw
                case rel => exact ⟨k + 1, by go_num, by omega, site, fun h => by omega, fun _ => ⟨hlt, by simp only [Nat.add_sub_cancel]; rw [HD.out]⟩, HF.out, HK.out.trans (Kept.drewN_eq nq) fun _ _ e => e⟩
                case measure => simp [intOf]; omega
              · cases k with
                | zero => exact absurd rfl h0
                | succ k =>
                  have y0 := hzc (by omega)
                  simp only [Nat.add_sub_cancel] at y0
                  have e3 : decide (site ≤ z) = false := decide_eq_false h3
                  clear hzc h0
                  go_wp2_with (fail)
                  go_quiet (fail)
                  go_wp2
                  go_roundw
                  case rel => exact ⟨k + 1 + 1, by go_num, by omega, site, fun h => by omega, fun _ => ⟨hlt, by simp only [Nat.add_sub_cancel]; rw [HD.out]⟩, HF.out, HK.out.trans (Kept.drewN_eq nq) fun _ _ e => e⟩
                  case measure => simp [intOf]; omega
    · obtain rfl : k = l.length := by omega
      obtain rfl : 0 = res := by rw [← hc, List.drop_length]; rfl
      clear hc hkw hz hzz
      go_wp2
      go_ret
      exact ⟨rfl, HK.out⟩
end Go.Proofs.YtnajbkccaclkcaaGreat

namespace Go.Proofs.YtnajbkccaclkcaaGreat
open Go.RowKit

set_option maxRecDepth 100000 in
theorem greater_is (x y m : Int) (w : World) (hm : (if x < y then y else x) = m) : Calls Tryz.prog 86 #[.int .i64 x, .int .i64 y] w fun e w' => e = .returned (.int .i64 m) ∧ w = w' := by
  go_enter Tryz.func86, Tryz.ntmps86
  go_wp2
  go_ret
  exact ⟨rfl, rfl⟩
def WithAt (w wr : World) (g : Nat) (r s : List Int) : Prop := Box wr w.heap.size 130 (rowV row0) ∧ Box wr g 130 (rowV r) ∧ Box wr (g + 1) 130 (rowV s) ∧ Kept (fun _ => False) w wr
theorem Kept.with {w w2 w3 w4 : World} {o o' : Obj} (h : Kept (fun _ => False) w w2) (h3 : Kept (fun k => k = w2.heap.size) ((w2.alloc o).alloc o') w3) (h4 : Kept (fun k => k = w2.heap.size + 1) w3 w4) :
    Kept (fun _ => False) w w4 ∧ Kept (fun k => k = w2.heap.size ∨ k = w2.heap.size + 1) w2 w4 := by
  have hs := h.size
  have a : Kept (fun k => k = w2.heap.size ∨ k = w2.heap.size + 1) w2 w4 := ((((Kept.refl _ _).alloc _).alloc _).trans h3 fun _ _ e => .inl e).trans h4 fun _ _ e => .inr e
  exact ⟨h.trans a fun j hj e => by omega, a⟩
theorem WithAt.set {w wr : World} {g : Nat} {r s : List Int} (h : WithAt w wr g r s) (hg : w.heap.size < g) (k : Nat) (x : Int) : WithAt w (wr.setCell ⟨g, k, none⟩ (.int .i64 x)) g (r.set k x) s := by
  refine ⟨h.1.far (p := ⟨g, k, none⟩) (by show w.heap.size ≠ g; omega) _, ?_, h.2.2.1.far (p := ⟨g, k, none⟩) (by show g + 1 ≠ g; omega) _, h.2.2.2.at k _ (.inr (by omega))⟩
  have := h.2.1.set k (.int .i64 x)
  rwa [rowV_set] at this
theorem WithAt.drewN {w wr : World} {g : Nat} {r s : List Int} (h : WithAt w wr g r s) (n : Nat) : WithAt w (wr.drewN n) g r s := ⟨h.1, h.2.1, h.2.2.1, h.2.2.2.drewN n⟩

set_option maxRecDepth 100000 in
set_option maxHeartbeats 1600000 in
theorem with_greater (F : Int → Int → Int) (hf : ∀ (x y : Int) (W : World), Calls Tryz.prog 86 #[.int .i64 x, .int .i64 y] W fun e w' => e = .returned (.int .i64 (F x y)) ∧ W = w')
    (A B : Option Addr) (l m : List Dt) (c d : Nat) (w : World) (hl : DotsAt w A l) (hm : DotsAt w B m) (hlen : l.length ≤ 4611686018427387904) (hlen' : m.length ≤ 4611686018427387904) :
    Calls Tryz.prog 85 #[.slice A l.length c, .slice B m.length d, .func (.func 86) #[] #[]] w (RowPost w (zipR F (says l) (says m) 17)) := by
  have HL := Lib.hid hl
  have HM := Lib.hid hm
  have HF := Lib.hid hf
  have HB0 := Lib.hid (zero_row w 130)
  clear hl hm hf
  go_enter Tryz.func85, Tryz.ntmps85
  go_wp2_with (fail)
  have hk0 := (Kept.refl (fun _ => False) w).alloc (.cells #[.int .i64 0, .int .i64 0, .int .i64 0, .int .i64 0, .int .i64 0, .int .i64 0, .int .i64 0, .int .i64 0, .int .i64 0, .int .i64 0, .int .i64 0, .int .i64 0, .int .i64 0, .int .i64 0, .int .i64 0, .int .i64 0, .int .i64 0] 130)
  have HK0 := Lib.hid hk0
  clear hk0
  generalize w.alloc (.cells #[.int .i64 0, .int .i64 0, .int .i64 0, .int .i64 0, .int .i64 0, .int .i64 0, .int .i64 0, .int .i64 0, .int .i64 0, .int .i64 0, .int .i64 0, .int .i64 0, .int .i64 0, .int .i64 0, .int .i64 0, .int .i64 0, .int .i64 0] 130) = W0 at HB0 HK0 ⊢
  refine (of_any A l c _ (HL.out.fresh HK0.out) hlen).mono ?_
  rintro e w1 ⟨rfl, hk1⟩
  have HK1 := Lib.hid (HK0.out.trans hk1 fun _ _ e => e)
  have HB1 := Lib.hid (HB0.out.kept hk1 fun h => h)
  clear hk1
  go_wp2_with (fail)
  refine (of_any B m d _ (HM.out.fresh HK1.out) hlen').mono ?_
  rintro e w2 ⟨rfl, hk2⟩
  have HK2 := Lib.hid (HK1.out.trans hk2 fun _ _ e => e)
  have hb2 := HB1.out.kept hk2 fun h => h
  have HR := Lib.hid (Row.says l)
  have HS := Lib.hid (Row.says m)
  clear hk2
  generalize hr : says l = r at HR ⊢
  generalize hs : says m = s at HS ⊢
  have HEQ := Lib.hid (show zipR F (says l) (says m) 17 = zipR F r s 17 by rw [hr, hs])
  clear hr hs
  have hix := fun (k : Nat) (hk : k < 17) (W : World) => run_index_row s HS.out.len k hk W
  have HIX := Lib.hid hix
  clear hix
  have HO := Lib.hid (OfAt.start w2 130)
  have HB2 := Lib.hid hb2
  clear hb2
  go_wp2_with (first
    | (refine wpList_store_box rfl 130 (.tmp 7) (.tmp 11) rfl w2.heap.size (rowV r) rfl rfl 130 (rowV row0) HO.out.1 (size_row.trans (size_of_row HR.out)) (by rw [rowV_size, rowV_size, HR.out.len]; rfl) (rowV_one _) ?_; intro w3 HB3 hk3; have HK3 := Lib.hid hk3; clear hk3)
    | (refine wpList_store_box rfl 130 (.tmp 8) (.tmp 13) rfl (w2.heap.size + 1) (rowV s) rfl rfl 130 (rowV row0) (HO.out.2.1.kept HK3.out (by omega)) (size_row.trans (size_of_row HS.out)) (by rw [rowV_size, rowV_size, HS.out.len]; rfl) (rowV_one _) ?_; intro w4 HB4 hk4; have HK4 := Lib.hid hk4; clear hk4))
  have hat : WithAt w w4 w2.heap.size r s := ⟨HB2.out.kept (HK2.out.with HK3.out HK4.out).2 (by have := HB2.out.lt; omega), HB3.out.kept HK4.out (by omega), HB4.out, (HK2.out.with HK3.out HK4.out).1⟩
  have HAT := Lib.hid hat
  have HRS := Lib.hid (show zipR F r s 0 = r from zipR_zero F s HR.out.len)
  have hwg := HB2.out.lt
  clear hat HB4 HB3 HK4 HK3 HO HB2 HK2 HK1 HB1 HB0 HIX HL HM
  generalize w2.heap.size = g at HAT hwg ⊢
  go_loopw [14] (fun i wr => ∃ k : Nat, i = .int .i64 k ∧ k ≤ 17 ∧ WithAt w wr g (zipR F r s k) s) (fun i _ => 17 - (intOf i).toNat)
  case atStart => exact ⟨0, rfl, Nat.zero_le _, by rw [HRS.out]; exact HAT.out⟩
  case round =>
    obtain ⟨k, rfl, hk, hat⟩ := hrel
    have HW := Lib.hid hat
    clear hat
    by_cases hlt : k < 17
    · have c0 : wr.cell? ⟨g, k, none⟩ = some (.int .i64 (rg r k)) := by rw [HW.out.2.1.cell, rowV_get _ _ (by rw [zipR_len]; omega), zipR_rg _ _ _ _ _ hlt, if_neg (by omega)]
      have c1 : wr.cell? ⟨g + 1, k, none⟩ = some (.int .i64 (rg s k)) := by rw [HW.out.2.2.1.cell, rowV_get _ _ (by rw [HS.out.len]; omega)]
      have f0 : wr.frozen? ⟨g, k, none⟩ = false := HW.out.2.1.frozen k
      have HE := Lib.hid (show zipR F r s (k + 1) = (zipR F r s k).set k (F (rg r k) (rg s k)) from zipR_succ F r s k hlt)
      generalize rg r k = x at c0 HE
      generalize rg s k = y at c1 HE
      go_wp2_with (fail)
      go_region_with (go_at_call 86; refine (HF.out x y _).mono ?_; rintro e w' ⟨rfl, rfl⟩)
      all_goals
        go_wp2
        go_roundw
        case rel => exact ⟨k + 1, by go_num, by omega, by rw [HE.out]; exact (HW.out.drewN 1).set hwg k _⟩
        case measure => simp [intOf]; omega
    · obtain rfl : k = 17 := by omega
      have HRow := Lib.hid (zipR_len F r s 17)
      have hb0 := HW.out.1
      have hb1 := HW.out.2.1
      go_wp2_with (first
        | (refine wpList_load_box rfl 130 (.tmp 7) rfl g rfl 130 (rowV (zipR F r s 17)) _ hb1 Tryz.underlying130 rfl (size_row.trans (by rw [rowV_size, HRow.out])) ?_)
        | (refine wpList_store_box rfl 130 (.tmp 6) (.tmp 28) rfl w.heap.size (rowV (zipR F r s 17)) rfl rfl 130 (rowV row0) hb0 (size_row.trans (by rw [rowV_size, HRow.out])) (by rw [rowV_size, rowV_size, HRow.out]; rfl) (rowV_one _) ?_; intro w5 HB5 hk5))
      exact bodyPost_ret (results_cell_row rfl _ _ w.heap.size 130 (rowV (zipR F r s 17)) (0, 0) _ rfl HB5.out Tryz.underlying130 rfl (size_row.trans (by rw [rowV_size, HRow.out]))) rfl (by rw [HEQ.out]; exact ⟨rfl, HW.out.2.2.2.trans hk5 fun j hj e => by omega⟩)

end Go.Proofs.YtnajbkccaclkcaaGreat
