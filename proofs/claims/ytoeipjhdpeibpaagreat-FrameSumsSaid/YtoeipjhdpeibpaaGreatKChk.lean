/- frame.Check walked at the example and at no frame. Conditions: the one Dot lies in memory. -/
import Derived.Test.YtoeipjhdpeibpaaGreatKCls
import Derived.Test.YtoeipjhdpeibpaaGreatICel
import Derived.Laws.OwnMore
namespace Go.Proofs.YtoeipjhdpeibpaaGreat
open Go Go.RowKit

theorem info_fn : (Tryz.prog.info? 72).map (fun i => (i.zero, i.size, i.bytes)) = some (some (.nilFunc), 1, 8) := by kernel_rfl
theorem eltFuncs : Elt Tryz.prog 76 72 1 8 := .of Tryz.underlying76 info_fn rfl (by decide) (by decide)
set_option maxRecDepth 100000 in
set_option maxHeartbeats 4000000 in
theorem Check_ex (A : Option Addr) (c : Nat) (w : World) (hd : DotsAt w A [⟨1, 7⟩]) : Calls Tryz.prog 11 #[.agg (exC A c)] w (OkPost w) := by
  have HD := Lib.hid hd
  clear hd
  unfold exC
  obtain ⟨w2, h2⟩ : ∃ w2, (w.alloc (.cells #[.int .i64 1, .int .i64 1, .int .i64 2, .int .i64 3, .int .i64 4, .int .i64 5, .bool true, .slice A 1 c, .slice none 0 0, .slice none 0 0, .slice none 0 0, .int .i64 0, .slice none 0 0, .slice none 0 0, .slice none 0 0, .slice none 0 0, .int .i64 0] 39)).alloc (.cells #[.func (.func 27) #[] #[.pointer (some ⟨w.heap.size, 0, none⟩)], .func (.func 28) #[] #[.pointer (some ⟨w.heap.size, 0, none⟩)], .func (.func 30) #[] #[.pointer (some ⟨w.heap.size, 0, none⟩)], .func (.func 32) #[] #[.pointer (some ⟨w.heap.size, 0, none⟩)]] 72) = w2 := ⟨_, rfl⟩
  have hb := (Box.new w 39 #[.int .i64 1, .int .i64 1, .int .i64 2, .int .i64 3, .int .i64 4, .int .i64 5, .bool true, .slice A 1 c, .slice none 0 0, .slice none 0 0, .slice none 0 0, .int .i64 0, .slice none 0 0, .slice none 0 0, .slice none 0 0, .slice none 0 0, .int .i64 0]).alloc (.cells #[.func (.func 27) #[] #[.pointer (some ⟨w.heap.size, 0, none⟩)], .func (.func 28) #[] #[.pointer (some ⟨w.heap.size, 0, none⟩)], .func (.func 30) #[] #[.pointer (some ⟨w.heap.size, 0, none⟩)], .func (.func 32) #[] #[.pointer (some ⟨w.heap.size, 0, none⟩)]] 72)
  have hk := ((Kept.refl (fun _ => False) w).alloc (.cells #[.int .i64 1, .int .i64 1, .int .i64 2, .int .i64 3, .int .i64 4, .int .i64 5, .bool true, .slice A 1 c, .slice none 0 0, .slice none 0 0, .slice none 0 0, .int .i64 0, .slice none 0 0, .slice none 0 0, .slice none 0 0, .slice none 0 0, .int .i64 0] 39)).alloc (.cells #[.func (.func 27) #[] #[.pointer (some ⟨w.heap.size, 0, none⟩)], .func (.func 28) #[] #[.pointer (some ⟨w.heap.size, 0, none⟩)], .func (.func 30) #[] #[.pointer (some ⟨w.heap.size, 0, none⟩)], .func (.func 32) #[] #[.pointer (some ⟨w.heap.size, 0, none⟩)]] 72)
  have ho := World.ownsRow_lit (base := w.heap.size) (e := 72) (size := 1) (w.alloc (.cells #[.int .i64 1, .int .i64 1, .int .i64 2, .int .i64 3, .int .i64 4, .int .i64 5, .bool true, .slice A 1 c, .slice none 0 0, .slice none 0 0, .slice none 0 0, .int .i64 0, .slice none 0 0, .slice none 0 0, .slice none 0 0, .slice none 0 0, .int .i64 0] 39)) #[.func (.func 27) #[] #[.pointer (some ⟨w.heap.size, 0, none⟩)], .func (.func 28) #[] #[.pointer (some ⟨w.heap.size, 0, none⟩)], .func (.func 30) #[] #[.pointer (some ⟨w.heap.size, 0, none⟩)], .func (.func 32) #[] #[.pointer (some ⟨w.heap.size, 0, none⟩)]] 4 (by simp) (by decide) rfl
  rw [h2] at hb hk ho
  rw [World.size_alloc] at ho
  have HW := Lib.hid h2
  have HB := Lib.hid hb
  have HK := Lib.hid hk
  have HO := Lib.hid ho
  have x0 : w2.cell? ⟨w.heap.size, 0, none⟩ = some (.int .i64 1) := (hb.cell 0).trans rfl
  have hsz := hk.size
  clear h2 hb hk ho
  go_enter Tryz.func11, Tryz.ntmps11
  go_upto_region 2 with (fail)
  rw [HW.out]
  clear HW
  go_wp2_with (at_builtin; refine wpList_append_new eltFuncs rfl _ _ rfl w.heap.size _ 4 _ rfl HO.out 3 3 rfl rfl rfl (by decide) hsz ?_)
  intro A1 c1 w3 HO3 HK3 _HG3
  have HB3 := Lib.hid (HB.out.kept HK3.out (own_box_ne HO.out HB.out (by decide)))
  have HK4 := Lib.hid (HK.out.trans HK3.out fun k hk e => by have := (HO.out.lt k e).1; omega)
  obtain ⟨gf, rfl, -, hcf, -⟩ := own_cells HO3.out (by decide)
  have HC := Lib.hid hcf
  clear hcf HO HO3 HK3 HB HK x0 hsz
  go_wp2_with (fail)
  go_loopw [29] (fun i wr => ∃ k : Nat, i = .int .i64 k ∧ k ≤ 7 ∧ Kept (fun _ => False) w3 wr) (fun i _ => 7 - (intOf i).toNat)
  case atStart => exact ⟨0, rfl, by omega, Kept.refl _ _⟩
  case round =>
    obtain ⟨k, rfl, hk, hkw⟩ := hrel
    have HKW := Lib.hid hkw
    have HBW := Lib.hid (HB3.out.kept hkw id)
    have HKR := Lib.hid (HK4.out.trans hkw fun _ _ e => e)
    clear hkw
    have hcase : k = 0 ∨ k = 1 ∨ k = 2 ∨ k = 3 ∨ k = 4 ∨ k = 5 ∨ k = 6 ∨ k = 7 := by omega
    rcases hcase with rfl | rfl | rfl | rfl | rfl | rfl | rfl | rfl
    · as_aux_lemma =>
      have q : wr.cell? ⟨gf, 0, none⟩ = some (.func (.func 27) #[] #[.pointer (some ⟨w.heap.size, 0, none⟩)]) := HKW.out.cellF (HC.out 0 _ rfl)
      go_wp2_with (fail)
      refine (ck1 A c _ wr HBW.out).mono ?_
      rintro r w5 ⟨rfl, hk5⟩
      have HK5 := Lib.hid hk5
      clear hk5 q
      go_wp2_with (fail)
      go_roundw
      case rel => exact ⟨1, rfl, by omega, HKW.out.trans HK5.out fun _ _ e => e⟩
      case measure => simp [intOf]
    · as_aux_lemma =>
      have q : wr.cell? ⟨gf, 1, none⟩ = some (.func (.func 28) #[] #[.pointer (some ⟨w.heap.size, 0, none⟩)]) := HKW.out.cellF (HC.out 1 _ rfl)
      go_wp2_with (fail)
      refine (ck2 A c _ wr HBW.out).mono ?_
      rintro r w5 ⟨rfl, hk5⟩
      have HK5 := Lib.hid hk5
      clear hk5 q
      go_wp2_with (fail)
      go_roundw
      case rel => exact ⟨2, rfl, by omega, HKW.out.trans HK5.out fun _ _ e => e⟩
      case measure => simp [intOf]
    · as_aux_lemma =>
      have q : wr.cell? ⟨gf, 2, none⟩ = some (.func (.func 30) #[] #[.pointer (some ⟨w.heap.size, 0, none⟩)]) := HKW.out.cellF (HC.out 2 _ rfl)
      go_wp2_with (fail)
      refine (ck3 A c _ wr HBW.out).mono ?_
      rintro r w5 ⟨rfl, hk5⟩
      have HK5 := Lib.hid hk5
      clear hk5 q
      go_wp2_with (fail)
      go_roundw
      case rel => exact ⟨3, rfl, by omega, HKW.out.trans HK5.out fun _ _ e => e⟩
      case measure => simp [intOf]
    · as_aux_lemma =>
      have q : wr.cell? ⟨gf, 3, none⟩ = some (.func (.func 32) #[] #[.pointer (some ⟨w.heap.size, 0, none⟩)]) := HKW.out.cellF (HC.out 3 _ rfl)
      go_wp2_with (fail)
      refine (ck4 A c _ wr HBW.out (HD.out.fresh HKR.out)).mono ?_
      rintro r w5 ⟨rfl, hk5⟩
      have HK5 := Lib.hid hk5
      clear hk5 q
      go_wp2_with (fail)
      go_roundw
      case rel => exact ⟨4, rfl, by omega, HKW.out.trans HK5.out fun _ _ e => e⟩
      case measure => simp [intOf]
    · as_aux_lemma =>
      have q : wr.cell? ⟨gf, 4, none⟩ = some (.func (.func 34) #[] #[.pointer (some ⟨w.heap.size, 0, none⟩)]) := HKW.out.cellF (HC.out 4 _ rfl)
      go_wp2_with (fail)
      refine (ck5 A c _ wr HBW.out).mono ?_
      rintro r w5 ⟨rfl, hk5⟩
      have HK5 := Lib.hid hk5
      clear hk5 q
      go_wp2_with (fail)
      go_roundw
      case rel => exact ⟨5, rfl, by omega, HKW.out.trans HK5.out fun _ _ e => e⟩
      case measure => simp [intOf]
    · as_aux_lemma =>
      have q : wr.cell? ⟨gf, 5, none⟩ = some (.func (.func 36) #[] #[.pointer (some ⟨w.heap.size, 0, none⟩)]) := HKW.out.cellF (HC.out 5 _ rfl)
      go_wp2_with (fail)
      refine (ck6 A c _ wr HBW.out).mono ?_
      rintro r w5 ⟨rfl, hk5⟩
      have HK5 := Lib.hid hk5
      clear hk5 q
      go_wp2_with (fail)
      go_roundw
      case rel => exact ⟨6, rfl, by omega, HKW.out.trans HK5.out fun _ _ e => e⟩
      case measure => simp [intOf]
    · as_aux_lemma =>
      have q : wr.cell? ⟨gf, 6, none⟩ = some (.func (.func 37) #[] #[.pointer (some ⟨w.heap.size, 0, none⟩)]) := HKW.out.cellF (HC.out 6 _ rfl)
      go_wp2_with (fail)
      refine (ck7 A c _ wr HBW.out).mono ?_
      rintro r w5 ⟨rfl, hk5⟩
      have HK5 := Lib.hid hk5
      clear hk5 q
      go_wp2_with (fail)
      go_roundw
      case rel => exact ⟨7, rfl, by omega, HKW.out.trans HK5.out fun _ _ e => e⟩
      case measure => simp [intOf]
    · as_aux_lemma =>
      go_wp2_with (fail)
      go_ret
      exact ⟨rfl, HKR.out⟩
set_option maxRecDepth 100000 in
set_option maxHeartbeats 1600000 in
theorem ck1_zero (g : Nat) (w : World) (hb : Box w g 39 frZ) : Calls Tryz.prog 27 #[.pointer (some ⟨g, 0, none⟩)] w (fun r w' => r = .returned (.int .i64 1) ∧ w' = w) := by
  have x0 : w.cell? ⟨g, 0, none⟩ = some (.int .i64 0) := (hb.cell 0).trans rfl
  clear hb
  go_enter Tryz.func27, Tryz.ntmps27
  go_wp2_with (fail)
  refine (unless_no _ _).mono ?_
  rintro r w1 ⟨rfl, rfl⟩
  go_wp2_with (fail)
  go_ret
  exact ⟨rfl, rfl⟩
set_option maxRecDepth 100000 in
set_option maxHeartbeats 4000000 in
theorem Check_zero (w : World) : Calls Tryz.prog 11 #[.agg frZ] w (fun r w' => r = .returned (.int .i64 1) ∧ Kept (fun _ => False) w w') := by
  unfold frZ
  obtain ⟨w2, h2⟩ : ∃ w2, (w.alloc (.cells #[.int .i64 0, .int .i64 0, .int .i64 0, .int .i64 0, .int .i64 0, .int .i64 0, .bool false, .slice none 0 0, .slice none 0 0, .slice none 0 0, .slice none 0 0, .int .i64 0, .slice none 0 0, .slice none 0 0, .slice none 0 0, .slice none 0 0, .int .i64 0] 39)).alloc (.cells #[.func (.func 27) #[] #[.pointer (some ⟨w.heap.size, 0, none⟩)], .func (.func 28) #[] #[.pointer (some ⟨w.heap.size, 0, none⟩)], .func (.func 30) #[] #[.pointer (some ⟨w.heap.size, 0, none⟩)], .func (.func 32) #[] #[.pointer (some ⟨w.heap.size, 0, none⟩)]] 72) = w2 := ⟨_, rfl⟩
  have hb := (Box.new w 39 #[.int .i64 0, .int .i64 0, .int .i64 0, .int .i64 0, .int .i64 0, .int .i64 0, .bool false, .slice none 0 0, .slice none 0 0, .slice none 0 0, .slice none 0 0, .int .i64 0, .slice none 0 0, .slice none 0 0, .slice none 0 0, .slice none 0 0, .int .i64 0]).alloc (.cells #[.func (.func 27) #[] #[.pointer (some ⟨w.heap.size, 0, none⟩)], .func (.func 28) #[] #[.pointer (some ⟨w.heap.size, 0, none⟩)], .func (.func 30) #[] #[.pointer (some ⟨w.heap.size, 0, none⟩)], .func (.func 32) #[] #[.pointer (some ⟨w.heap.size, 0, none⟩)]] 72)
  have hk := ((Kept.refl (fun _ => False) w).alloc (.cells #[.int .i64 0, .int .i64 0, .int .i64 0, .int .i64 0, .int .i64 0, .int .i64 0, .bool false, .slice none 0 0, .slice none 0 0, .slice none 0 0, .slice none 0 0, .int .i64 0, .slice none 0 0, .slice none 0 0, .slice none 0 0, .slice none 0 0, .int .i64 0] 39)).alloc (.cells #[.func (.func 27) #[] #[.pointer (some ⟨w.heap.size, 0, none⟩)], .func (.func 28) #[] #[.pointer (some ⟨w.heap.size, 0, none⟩)], .func (.func 30) #[] #[.pointer (some ⟨w.heap.size, 0, none⟩)], .func (.func 32) #[] #[.pointer (some ⟨w.heap.size, 0, none⟩)]] 72)
  have ho := World.ownsRow_lit (base := w.heap.size) (e := 72) (size := 1) (w.alloc (.cells #[.int .i64 0, .int .i64 0, .int .i64 0, .int .i64 0, .int .i64 0, .int .i64 0, .bool false, .slice none 0 0, .slice none 0 0, .slice none 0 0, .slice none 0 0, .int .i64 0, .slice none 0 0, .slice none 0 0, .slice none 0 0, .slice none 0 0, .int .i64 0] 39)) #[.func (.func 27) #[] #[.pointer (some ⟨w.heap.size, 0, none⟩)], .func (.func 28) #[] #[.pointer (some ⟨w.heap.size, 0, none⟩)], .func (.func 30) #[] #[.pointer (some ⟨w.heap.size, 0, none⟩)], .func (.func 32) #[] #[.pointer (some ⟨w.heap.size, 0, none⟩)]] 4 (by simp) (by decide) rfl
  rw [h2] at hb hk ho
  rw [World.size_alloc] at ho
  have HW := Lib.hid h2
  have HB := Lib.hid hb
  have HK := Lib.hid hk
  have HO := Lib.hid ho
  have x0 : w2.cell? ⟨w.heap.size, 0, none⟩ = some (.int .i64 0) := (hb.cell 0).trans rfl
  have hsz := hk.size
  clear h2 hb hk ho
  go_enter Tryz.func11, Tryz.ntmps11
  go_upto_region 2 with (fail)
  rw [HW.out]
  clear HW
  go_wp2_with (at_builtin; refine wpList_append_new eltFuncs rfl _ _ rfl w.heap.size _ 4 _ rfl HO.out 3 3 rfl rfl rfl (by decide) hsz ?_)
  intro A1 c1 w3 HO3 HK3 _HG3
  have HB3 := Lib.hid (HB.out.kept HK3.out (own_box_ne HO.out HB.out (by decide)))
  have HK4 := Lib.hid (HK.out.trans HK3.out fun k hk e => by have := (HO.out.lt k e).1; omega)
  obtain ⟨gf, rfl, -, hcf, -⟩ := own_cells HO3.out (by decide)
  have HC := Lib.hid hcf
  clear hcf HO HO3 HK3 HB HK x0 hsz
  go_wp2_with (fail)
  go_loopw [29] (fun i wr => i = .int .i64 0 ∧ wr = w3) (fun _ _ => 0)
  case atStart => exact ⟨rfl, rfl⟩
  case round =>
    obtain ⟨rfl, rfl⟩ := hrel
    have q : wr.cell? ⟨gf, 0, none⟩ = some (.func (.func 27) #[] #[.pointer (some ⟨w.heap.size, 0, none⟩)]) := HC.out 0 _ rfl
    go_wp2_with (fail)
    refine (ck1_zero _ wr HB3.out).mono ?_
    rintro r w5 ⟨rfl, rfl⟩
    go_wp2_with (fail)
    go_ret
    exact ⟨rfl, HK4.out⟩
end Go.Proofs.YtoeipjhdpeibpaaGreat
