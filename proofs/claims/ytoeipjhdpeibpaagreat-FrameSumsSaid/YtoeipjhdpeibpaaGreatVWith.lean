/- The walks of with, greater, lesser. Conditions: the Dots lie in memory as DotsAt says. -/
import Derived.Test.YtoeipjhdpeibpaaGreatVRCheck
namespace Go.Proofs.YtoeipjhdpeibpaaGreat
open Go.RowKit

set_option maxRecDepth 100000 in
theorem greater_is (x y m : Int) (w : World) (hm : (if x < y then y else x) = m) : Calls Tryz.prog 82 #[.int .i64 x, .int .i64 y] w fun e w' => e = .returned (.int .i64 m) ∧ w = w' := by
  go_enter Tryz.func82, Tryz.ntmps82
  go_wp2
  go_ret
  exact ⟨rfl, rfl⟩
def WithAt (w wr : World) (g : Nat) (r s : List Int) : Prop := Box wr w.heap.size 85 (rowV row0) ∧ Box wr g 85 (rowV r) ∧ Box wr (g + 1) 85 (rowV s) ∧ Kept (fun _ => False) w wr
theorem Kept.with {w w2 w3 w4 : World} {o o' : Obj} (h : Kept (fun _ => False) w w2) (h3 : Kept (fun k => k = w2.heap.size) ((w2.alloc o).alloc o') w3) (h4 : Kept (fun k => k = w2.heap.size + 1) w3 w4) :
    Kept (fun _ => False) w w4 ∧ Kept (fun k => k = w2.heap.size ∨ k = w2.heap.size + 1) w2 w4 := by
  have hs := h.size
  have a : Kept (fun k => k = w2.heap.size ∨ k = w2.heap.size + 1) w2 w4 := ((((Kept.refl _ _).alloc _).alloc _).trans h3 fun _ _ e => .inl e).trans h4 fun _ _ e => .inr e
  exact ⟨h.trans a fun j hj e => by omega, a⟩
theorem WithAt.set {w wr : World} {g : Nat} {r s : List Int} (h : WithAt w wr g r s) (hg : w.heap.size < g) (k : Nat) (x : Int) : WithAt w (wr.setCell ⟨g, k, none⟩ (.int .i64 x)) g (r.set k x) s := by
  refine ⟨h.1.far (p := ⟨g, k, none⟩) (by show w.heap.size ≠ g; omega) _, ?_, h.2.2.1.far (p := ⟨g, k, none⟩) (by show g + 1 ≠ g; omega) _, h.2.2.2.at k _ (.inr (by omega))⟩
  have := h.2.1.set k (.int .i64 x)
  rwa [rowV_set] at this
theorem WithAt.drewN {w wr : World} {g : Nat} {r s : List Int} (h : WithAt w wr g r s) (n : Nat) : WithAt w (wr.drewN n) g r s := ⟨h.1, h.2.1, h.2.2.1, h.2.2.2.drewN n⟩

set_option maxRecDepth 100000 in
set_option maxHeartbeats 1600000 in
theorem with_greater (F : Int → Int → Int) (hf : ∀ (x y : Int) (W : World), Calls Tryz.prog 82 #[.int .i64 x, .int .i64 y] W fun e w' => e = .returned (.int .i64 (F x y)) ∧ W = w')
    (A B : Option Addr) (l m : List Dt) (c d : Nat) (w : World) (hl : DotsAt w A l) (hm : DotsAt w B m) (hlen : l.length ≤ 4611686018427387904) (hlen' : m.length ≤ 4611686018427387904) :
    Calls Tryz.prog 81 #[.slice A l.length c, .slice B m.length d, .func (.func 82) #[] #[]] w (RowPost w (zipR F (says l) (says m) 17)) := by
  have HL := Lib.hid hl
  have HM := Lib.hid hm
  have HF := Lib.hid hf
  have HB0 := Lib.hid (zero_row w 85)
  clear hl hm hf
  go_enter Tryz.func81, Tryz.ntmps81
  go_wp2_with (fail)
  have hk0 := (Kept.refl (fun _ => False) w).alloc (.cells #[.int .i64 0, .int .i64 0, .int .i64 0, .int .i64 0, .int .i64 0, .int .i64 0, .int .i64 0, .int .i64 0, .int .i64 0, .int .i64 0, .int .i64 0, .int .i64 0, .int .i64 0, .int .i64 0, .int .i64 0, .int .i64 0, .int .i64 0] 85)
  have HK0 := Lib.hid hk0
  clear hk0
  generalize w.alloc (.cells #[.int .i64 0, .int .i64 0, .int .i64 0, .int .i64 0, .int .i64 0, .int .i64 0, .int .i64 0, .int .i64 0, .int .i64 0, .int .i64 0, .int .i64 0, .int .i64 0, .int .i64 0, .int .i64 0, .int .i64 0, .int .i64 0, .int .i64 0] 85) = W0 at HB0 HK0 ⊢
  refine (of_any A l c _ (HL.out.fresh HK0.out) hlen).mono ?_
  rintro e w1 ⟨rfl, hk1⟩
  have HK1 := Lib.hid (HK0.out.trans hk1 fun _ _ e => e)
  have HB1 := Lib.hid (HB0.out.kept hk1 fun h => h)
  clear hk1
  go_wp2_with (fail)
  refine (of_any B m d _ (HM.out.fresh HK1.out) hlen').mono ?_
  rintro e w2 ⟨rfl, hk2⟩
  have HK2 := Lib.hid (HK1.out.trans hk2 fun _ _ e => e)
  have hb2 := HB1.out.kept hk2 fun h => h
  have HR := Lib.hid (Row.says l)
  have HS := Lib.hid (Row.says m)
  clear hk2
  generalize hr : says l = r at HR ⊢
  generalize hs : says m = s at HS ⊢
  have HEQ := Lib.hid (show zipR F (says l) (says m) 17 = zipR F r s 17 by rw [hr, hs])
  clear hr hs
  have hix := fun (k : Nat) (hk : k < 17) (W : World) => run_index_row s HS.out.len k hk W
  have HIX := Lib.hid hix
  clear hix
  have HO := Lib.hid (OfAt.start w2 85)
  have HB2 := Lib.hid hb2
  clear hb2
  go_wp2_with (first
    | (refine wpList_store_box rfl 85 (.tmp 7) (.tmp 11) rfl w2.heap.size (rowV r) rfl rfl 85 (rowV row0) HO.out.1 (size_row.trans (size_of_row HR.out)) (by rw [rowV_size, rowV_size, HR.out.len]; rfl) (rowV_one _) ?_; intro w3 HB3 hk3; have HK3 := Lib.hid hk3; clear hk3)
    | (refine wpList_store_box rfl 85 (.tmp 8) (.tmp 13) rfl (w2.heap.size + 1) (rowV s) rfl rfl 85 (rowV row0) (HO.out.2.1.kept HK3.out (by omega)) (size_row.trans (size_of_row HS.out)) (by rw [rowV_size, rowV_size, HS.out.len]; rfl) (rowV_one _) ?_; intro w4 HB4 hk4; have HK4 := Lib.hid hk4; clear hk4))
  have hat : WithAt w w4 w2.heap.size r s := ⟨HB2.out.kept (HK2.out.with HK3.out HK4.out).2 (by have := HB2.out.lt; omega), HB3.out.kept HK4.out (by omega), HB4.out, (HK2.out.with HK3.out HK4.out).1⟩
  have HAT := Lib.hid hat
  have HRS := Lib.hid (show zipR F r s 0 = r from zipR_zero F s HR.out.len)
  have hwg := HB2.out.lt
  clear hat HB4 HB3 HK4 HK3 HO HB2 HK2 HK1 HB1 HB0 HIX HL HM
  generalize w2.heap.size = g at HAT hwg ⊢
  go_loopw [14] (fun i wr => ∃ k : Nat, i = .int .i64 k ∧ k ≤ 17 ∧ WithAt w wr g (zipR F r s k) s) (fun i _ => 17 - (intOf i).toNat)
  case atStart => exact ⟨0, rfl, Nat.zero_le _, by rw [HRS.out]; exact HAT.out⟩
  case round =>
    obtain ⟨k, rfl, hk, hat⟩ := hrel
    have HW := Lib.hid hat
    clear hat
    by_cases hlt : k < 17
    · have c0 : wr.cell? ⟨g, k, none⟩ = some (.int .i64 (rg r k)) := by rw [HW.out.2.1.cell, rowV_get _ _ (by rw [zipR_len]; omega), zipR_rg _ _ _ _ _ hlt, if_neg (by omega)]
      have c1 : wr.cell? ⟨g + 1, k, none⟩ = some (.int .i64 (rg s k)) := by rw [HW.out.2.2.1.cell, rowV_get _ _ (by rw [HS.out.len]; omega)]
      have f0 : wr.frozen? ⟨g, k, none⟩ = false := HW.out.2.1.frozen k
      have HE := Lib.hid (show zipR F r s (k + 1) = (zipR F r s k).set k (F (rg r k) (rg s k)) from zipR_succ F r s k hlt)
      generalize rg r k = x at c0 HE
      generalize rg s k = y at c1 HE
      go_wp2_with (fail)
      go_region_with (go_at_call 82; refine (HF.out x y _).mono ?_; rintro e w' ⟨rfl, rfl⟩)
      all_goals
        go_wp2
        go_roundw
        case rel => exact ⟨k + 1, by go_num, by omega, by rw [HE.out]; exact (HW.out.drewN 1).set hwg k _⟩
        case measure => simp [intOf]; omega
    · obtain rfl : k = 17 := by omega
      have HRow := Lib.hid (zipR_len F r s 17)
      have hb0 := HW.out.1
      have hb1 := HW.out.2.1
      go_wp2_with (first
        | (refine wpList_load_box rfl 85 (.tmp 7) rfl g rfl 85 (rowV (zipR F r s 17)) _ hb1 Tryz.underlying85 rfl (size_row.trans (by rw [rowV_size, HRow.out])) ?_)
        | (refine wpList_store_box rfl 85 (.tmp 6) (.tmp 28) rfl w.heap.size (rowV (zipR F r s 17)) rfl rfl 85 (rowV row0) hb0 (size_row.trans (by rw [rowV_size, HRow.out])) (by rw [rowV_size, rowV_size, HRow.out]; rfl) (rowV_one _) ?_; intro w5 HB5 hk5))
      exact bodyPost_ret (results_cell_row rfl _ _ w.heap.size 85 (rowV (zipR F r s 17)) (0, 0) _ rfl HB5.out Tryz.underlying85 rfl (size_row.trans (by rw [rowV_size, HRow.out]))) rfl (by rw [HEQ.out]; exact ⟨rfl, HW.out.2.2.2.trans hk5 fun j hj e => by omega⟩)

end Go.Proofs.YtoeipjhdpeibpaaGreat
