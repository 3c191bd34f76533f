/- The walk of the law's known: it is true. -/
import Derived.Test.YtnlklhlnnoihiaaMO36
namespace Go.Proofs.Ytnlklhlnnoihiaa
open Go Go.RowKit

theorem Check_lop (x : Lop) (w : World) (hx : x.At w) (hs : x.o.Small) : Calls Try.prog 15 #[.agg x.c] w (IntPost w (opE x.o)) := OpCheck_any x.o x.dA x.gA x.dc x.gc w (hx.opr hs)
theorem bytes_box {w : World} {g : Nat} {T : TypeId} {l : List Int} (h : Box w g T (bys l).toArray) : BytesAt w (some ⟨g, 0, none⟩) l := by
  intro k hk
  refine ⟨_, rfl, ?_⟩
  rw [add_none, h.cell k]
  simpa using bys_get l k hk
theorem EncPost.ok {w w' : World} {o : Opr} {e : Ending} (h : EncPost w o e w') (hok : okOp o = true) : ∃ A c, e = .returned (.tuple #[.slice A (encOp o).length c, .int .i64 0]) ∧ w'.ownsRow w.heap.size 5 1 (.slice A (encOp o).length c) (encOp o).length (bys (encOp o)) ∧ Kept (fun _ => False) w w' := by
  unfold EncPost at h
  rwa [if_pos hok] at h
def KnownPost (w : World) (r : Ending) (w' : World) : Prop := r = .returned (.bool true) ∧ Kept (fun _ => False) w w'
set_option maxRecDepth 100000 in
set_option maxHeartbeats 3200000 in
theorem Known8_any (w : World) : Calls Try.prog 13 #[] w (KnownPost w) := by
  have hoe : opE exO = 0 := by unfold opE; rw [exO_ok]; rfl
  have HOE := Lib.hid hoe
  have HOZ := Lib.hid (show opE zeroO = 10 by unfold opE; rw [zeroO_no]; rfl)
  clear hoe
  go_enter Try.func13, Try.ntmps13
  go_wp2_with (fail)
  refine (Ex_any w).mono ?_
  rintro r w1 ⟨x, rfl, hxo, hx, hk⟩
  have HX := Lib.hid hx
  have HXO := Lib.hid hxo
  have HK1 := Lib.hid hk
  clear hxo hx hk
  go_wp2_with (fail)
  refine (OpEncode_any x w1 HX.out (by rw [HXO.out]; exact exO_small)).mono ?_
  rintro r w2 hp
  obtain ⟨A, c, rfl, ho, hk⟩ := hp.ok (by rw [HXO.out]; exact exO_ok)
  rw [HXO.out] at ho ⊢
  have HAL := Lib.hid (show ∀ a, A = some a → a.block < w2.heap.size from fun a ha => by subst ha; exact (ho.lt a.block rfl).2)
  have HO := Lib.hid ho
  have HK2 := Lib.hid (HK1.out.trans hk fun _ _ e => e)
  clear ho hk HK1 HX
  have HN := Lib.hid (show A = none → encOp exO = [] from fun e => by
    subst e
    rcases HO.out.2 with ⟨h, h'⟩ | ⟨g, cap, cur, h, -⟩
    · exact List.eq_nil_of_length_eq_zero h'
    · injection h with h; cases h)
  have HBY := Lib.hid (show isByte (encOp exO) by rw [exO_enc]; intro b hb; simp at hb; omega)
  have HTR := Lib.hid (show (takeR ⟨encOp exO, 0⟩).1 = 0 → (takeR ⟨encOp exO, 0⟩).2.1.Small from fun _ => by
    have := takeR_enc exO_ok exO_small []
    rw [List.append_nil] at this
    rw [this]; exact exO_small)
  have hln : (encOp exO).length ≤ 100000000 := by rw [exO_enc]; decide
  go_wp2_with (fail)
  refine (OpDecode_any A (encOp exO) c w2 (BytesAt.of_own HO.out) HN.out hln HBY.out HTR.out).mono ?_
  rw [decO_enc exO_ok exO_small]
  rintro r w3 ⟨dA, dc, gA, gc, rfl, hod, hog, hk⟩
  have hw23 : w2.heap.size ≤ w3.heap.size := hk.size
  have HY := Lib.hid (show Lop.At w3 ⟨exO, dA, dc, gA, exO.gone.length⟩ from ⟨DotsAt.of_own hod, RunsAt.of_own hog⟩)
  have HK3 := Lib.hid (HK2.out.trans hk fun _ _ e => e)
  have HB3 := Lib.hid ((BytesAt.of_own HO.out).fresh hk)
  obtain ⟨y, hy⟩ : ∃ y : Lop, ⟨exO, dA, dc, gA, exO.gone.length⟩ = y := ⟨_, rfl⟩
  have HYO := Lib.hid (show y.o = exO by rw [← hy])
  have HYC := Lib.hid (show exO.cells dA dc gA exO.gone.length = y.c by rw [← hy]; rfl)
  rw [hy] at HY
  rw [show (Value.agg (((0 : Int), exO).2.cells dA dc gA ((0 : Int), exO).2.gone.length)) = .agg y.c by rw [← HYC.out]]
  clear hod hog hk HO HK2 HN HBY HTR hln hy HYC
  have HK3S := Lib.hid (show w.heap.size ≤ w3.heap.size from HK3.out.size)
  have hka : Kept (fun _ => False) w3 (w3.alloc (.cells zeroC 30)) := (Kept.refl _ _).alloc _
  have HBN := Lib.hid (Box.new w3 30 zeroC)
  have HYA := Lib.hid (HY.out.fresh hka)
  have HBA := Lib.hid (HB3.out.fresh hka)
  have HKA := Lib.hid (HK3.out.trans hka fun _ _ e => e)
  have HDL := Lib.hid (fun hl a ha => HY.out.d.block_lt hl a ha)
  have HGL := Lib.hid (fun hl a ha => HY.out.g.block_lt hl a ha)
  obtain ⟨bs, hbs⟩ : ∃ bs, encOp exO = bs := ⟨_, rfl⟩
  have HBS := Lib.hid (show bs = [1, 1, 2, 1, 1, 1, 5, 4, 3, 3, 104, 195, 169] by rw [← hbs]; exact exO_enc)
  have hbl : bs.length ≤ 13 := by rw [HBS.out]; decide
  rw [hbs] at HBA HB3 ⊢
  have HSZ := Lib.hid (show y.c.size = 11 from rfl)
  have HON := Lib.hid (show y.c.all (·.oneCell') = true from Opr.cells_one _ _ _ _ _)
  obtain ⟨cs, hcs⟩ : ∃ cs, y.c = cs := ⟨_, rfl⟩
  have HCS := Lib.hid hcs
  rw [hcs] at HSZ HON ⊢
  clear hka hp hbs hcs HY HB3 HK3 HXO
  go_wp2_with (refine wpList_store_box rfl 30 _ _ rfl w3.heap.size cs rfl rfl 30 zeroC HBN.out (by rw [HSZ.out]; exact size_op) HSZ.out.symm HON.out ?_; intro w4 HB4 hk4; refine Hid.out ?_)
  refine Lib.hid ?_
  have HY4 := Lib.hid (show y.At w4 from by
    refine ⟨?_, HYA.out.g.kept hk4 fun hl a ha => by have := HGL.out (List.length_pos_iff.1 hl) a ha; omega⟩
    by_cases hd : y.o.deps = []
    · rw [hd]; exact DotsAt.nil
    · exact HYA.out.d.kept hk4 fun a ha => by have := HDL.out hd a ha; omega)
  have HA4 := Lib.hid (HBA.out.kept hk4 fun a ha => by have := HAL.out a ha; omega)
  have HK4 := Lib.hid (HKA.out.trans hk4 fun k hk e => by have := HK3S.out; omega)
  obtain ⟨N, hN⟩ : ∃ N, w3.heap.size = N := ⟨_, rfl⟩
  rw [hN] at HB4 ⊢
  clear hk4 HAL HBN HYA HBA HKA HDL HGL hw23 HON hN HK3S
  go_upto_region 3 with (fail)
  have hkd : Kept (fun _ => False) w4 w4.drew := (Kept.refl _ _).drew
  have HYD := Lib.hid (HY4.out.fresh hkd)
  have HAD := Lib.hid (HA4.out.fresh hkd)
  have HBD := Lib.hid (HB4.out.kept hkd id)
  have HKD := Lib.hid (HK4.out.trans hkd fun _ _ e => e)
  clear hkd HY4 HA4 HB4 HK4

  refine wp_region_held_drew (S := fun Wz => Kept (fun _ => False) w4.drew Wz) (by kernel_rfl) (Kept.refl _ _) fun hS => ?_
  generalize w4.drew = W at HYD HAD HBD HKD hS ⊢
  refine held_one (i := 0) (by kernel_rfl) rfl fun K hK => ?_
  go_wp2_with (fail)
  refine (Ex_any W).mono ?_
  rintro r v1 ⟨x1, rfl, hxo, hx, hk⟩
  have HX1 := Lib.hid hx
  have HXO1 := Lib.hid hxo
  have hS1 := hS.trans hk fun _ _ e => e
  clear hxo hx hk
  go_wp2_with (fail)
  refine hK.out _ _ hS1 fun _ => ?_
  clear hK K
  refine held_one (i := 1) (by kernel_rfl) rfl fun K hK => ?_
  go_wp2_with (fail)
  refine (Check_lop x1 v1 HX1.out (by rw [HXO1.out]; exact exO_small)).mono ?_
  unfold IntPost
  rintro r v2 ⟨rfl, hk⟩
  have hS2 := hS1.trans hk fun _ _ e => e
  clear hk
  rw [HXO1.out, HOE.out]
  go_wp2_with (fail)
  refine hK.out _ _ hS2 fun _ => ?_
  clear hK K
  refine held_one (i := 2) (by kernel_rfl) rfl fun K hK => ?_
  go_wp2_with (fail)
  refine hK.out _ _ hS2 fun _ => ?_
  clear hK K
  refine held_one (i := 3) (by kernel_rfl) rfl fun K hK => ?_
  go_wp2_with (fail)
  refine hK.out _ _ hS2 fun _ => ?_
  clear hK K
  refine held_one (i := 4) (by kernel_rfl) rfl fun K hK => ?_
  go_wp2_with (fail)
  refine (Ex_any v2).mono ?_
  rintro r v3 ⟨x3, rfl, hxo, hx, hk⟩
  have HX3 := Lib.hid hx
  have HXO3 := Lib.hid hxo
  have hS3 := hS2.trans hk fun _ _ e => e
  clear hxo hx hk
  go_wp2_with (fail)
  refine hK.out _ _ hS3 fun _ => ?_
  clear hK K
  refine held_one (i := 5) (by kernel_rfl) rfl fun K hK => ?_
  go_wp2_with (fail)
  refine (OpLast_any x3 v3 HX3.out (by rw [HXO3.out]; exact exO_small)).mono ?_
  unfold IntPost
  rintro r v4 ⟨rfl, hk⟩
  have hS4 := hS3.trans hk fun _ _ e => e
  clear hk
  rw [HXO3.out, exO_last]
  go_wp2_with (fail)
  refine hK.out _ _ hS4 fun _ => ?_
  clear hK K
  refine held_one (i := 6) (by kernel_rfl) rfl fun K hK => ?_
  go_wp2_with (fail)
  refine hK.out _ _ hS4 fun _ => ?_
  clear hK K
  refine held_one (i := 7) (by kernel_rfl) rfl fun K hK => ?_
  go_wp2_with (fail)
  refine hK.out _ _ hS4 fun _ => ?_
  clear hK K
  refine held_one (i := 8) (by kernel_rfl) rfl fun K hK => ?_
  go_wp2_with (fail)
  refine hK.out _ _ hS4 fun _ => ?_
  clear hK K
  refine held_one (i := 9) (by kernel_rfl) rfl fun K hK => ?_
  go_wp2_with (fail)
  refine hK.out _ _ hS4 fun _ => ?_
  clear hK K
  refine held_one (i := 10) (by kernel_rfl) rfl fun K hK => ?_
  go_wp2_with (fail)
  refine hK.out _ _ hS4 fun _ => ?_
  clear hK K
  refine held_one (i := 11) (by kernel_rfl) rfl fun K hK => ?_
  go_wp2_with (fail)
  refine hK.out _ _ hS4 fun _ => ?_
  clear hK K
  refine held_one (i := 12) (by kernel_rfl) rfl fun K hK => ?_
  go_wp2_with (fail)
  refine hK.out _ _ hS4 fun _ => ?_
  clear hK K
  refine held_takeG 28 (i := 13) (v := .slice A bs.length c) rfl rfl (by kernel_rfl) (by kernel_rfl) (by kernel_rfl) (fun _ _ _ h => h) (by rfl) hS4 (fun Wz hW => by go_simp) ?_
  simp only [List.setIfInBounds_toArray, List.set_cons_zero, List.set_cons_succ]
  refine held_one (i := 14) (by kernel_rfl) rfl fun K hK => ?_
  go_wp2_with (fail)
  refine hK.out _ _ (hS4.alloc _) fun _ => ?_
  clear hK K
  have hS5 := hS4.alloc (.cells (bys [1, 1, 2, 1, 1, 1, 5, 4, 3, 3, 104, 195, 169]).toArray 5)
  have HLB := Lib.hid (bytes_box (Box.new v4 5 (bys [1, 1, 2, 1, 1, 1, 5, 4, 3, 3, 104, 195, 169]).toArray))
  have HA5 := Lib.hid (HAD.out.fresh hS5)
  have HEQ := Lib.hid (show decide (bs = [1, 1, 2, 1, 1, 1, 5, 4, 3, 3, 104, 195, 169]) = true from decide_eq_true HBS.out)
  refine held_one (i := 15) (by kernel_rfl) rfl fun K hK => ?_
  go_wp2_with (fail)
  refine (Bytes8_any A (some ⟨v4.heap.size, 0, none⟩) bs [1, 1, 2, 1, 1, 1, 5, 4, 3, 3, 104, 195, 169] c 13 _ HA5.out HLB.out (by omega)).mono ?_
  unfold SamePost
  rw [HEQ.out]
  rintro r v6 ⟨rfl, hk⟩
  have hS6 := hS5.trans hk fun _ _ e => e
  clear hk
  go_wp2_with (fail)
  refine hK.out _ _ hS6 fun _ => ?_
  clear hK K
  refine held_one (i := 16) (by kernel_rfl) rfl fun K hK => ?_
  go_wp2_with (fail)
  refine hK.out _ _ hS6 fun _ => ?_
  clear hK K
  refine held_one (i := 17) (by kernel_rfl) rfl fun K hK => ?_
  go_wp2_with (fail)
  refine hK.out _ _ hS6 fun _ => ?_
  clear hK K
  refine held_one (i := 18) (by kernel_rfl) rfl fun K hK => ?_
  go_wp2_with (fail)
  refine hK.out _ _ hS6 fun _ => ?_
  clear hK K
  refine held_one (i := 19) (by kernel_rfl) rfl fun K hK => ?_
  go_wp2_with (fail)
  refine hK.out _ _ hS6 fun _ => ?_
  clear hK K
  refine held_one (i := 20) (by kernel_rfl) rfl fun K hK => ?_
  go_wp2_with (fail)
  refine hK.out _ _ hS6 fun _ => ?_
  clear hK K
  refine held_one (i := 21) (by kernel_rfl) rfl fun K hK => ?_
  go_wp2_with (fail)
  refine hK.out _ _ hS6 fun _ => ?_
  clear hK K
  refine held_takeG 37 (i := 22) (v := .agg cs) rfl rfl (by kernel_rfl) (by kernel_rfl) (by kernel_rfl) (fun _ _ _ h => h) (by rfl) hS6 (fun Wz hW => run_load_op _ _ rfl N rfl _ cs HSZ.out (HBD.out.kept hW id)) ?_
  simp only [List.setIfInBounds_toArray, List.set_cons_zero, List.set_cons_succ]
  refine held_one (i := 23) (by kernel_rfl) rfl fun K hK => ?_
  go_wp2_with (fail)
  refine (Ex_any v6).mono ?_
  rintro r v7 ⟨x7, rfl, hxo, hx, hk⟩
  have HX7 := Lib.hid hx
  have HXO7 := Lib.hid hxo
  have hS7 := hS6.trans hk fun _ _ e => e
  clear hxo hx hk
  go_wp2_with (fail)
  refine hK.out _ _ hS7 fun _ => ?_
  clear hK K
  refine held_one (i := 24) (by kernel_rfl) rfl fun K hK => ?_
  go_wp2_with (fail)
  have hcall := Same8_any y x7 v7 (HYD.out.fresh hS7) HX7.out (by rw [HYO.out]; decide) (by rw [HYO.out]; decide)
  rw [HCS.out] at hcall
  refine hcall.mono ?_
  clear hcall
  rintro r v8 ⟨b, rfl, hb, hk⟩
  obtain rfl : b = true := hb.2 (by rw [HYO.out, HXO7.out])
  have hS8 := hS7.trans hk fun _ _ e => e
  clear hk hb
  go_wp2_with (fail)
  refine hK.out _ _ hS8 fun _ => ?_
  clear hK K
  refine held_one (i := 25) (by kernel_rfl) rfl fun K hK => ?_
  go_wp2_with (fail)
  refine hK.out _ _ hS8 fun _ => ?_
  clear hK K
  refine held_one (i := 26) (by kernel_rfl) rfl fun K hK => ?_
  go_wp2_with (fail)
  refine hK.out _ _ hS8 fun _ => ?_
  clear hK K
  refine held_one (i := 27) (by kernel_rfl) rfl fun K hK => ?_
  go_wp2_with (fail)
  refine hK.out _ _ hS8 fun _ => ?_
  clear hK K
  refine held_one (i := 28) (by kernel_rfl) rfl fun K hK => ?_
  go_wp2_with (fail)
  refine (Check_lop ⟨zeroO, none, 0, none, 0⟩ v8 ⟨DotsAt.nil, RunsAt.nil⟩ ⟨fun r hr => absurd hr (by simp [zeroO]), by decide, by decide, by decide⟩).mono ?_
  unfold IntPost
  rintro r v9 ⟨rfl, hk⟩
  have hS9 := hS8.trans hk fun _ _ e => e
  clear hk
  rw [HOZ.out]
  go_wp2_with (fail)
  refine hK.out _ _ hS9 fun _ => ?_
  clear hK K
  refine held_one (i := 29) (by kernel_rfl) rfl fun K hK => ?_
  go_wp2_with (fail)
  refine hK.out _ _ hS9 fun _ => ?_
  clear hK K
  refine held_one (i := 30) (by kernel_rfl) rfl fun K hK => ?_
  go_wp2_with (fail)
  refine hK.out _ _ hS9 fun _ => ?_
  clear hK K
  refine held_one (i := 31) (by kernel_rfl) rfl fun K hK => ?_
  go_wp2_with (fail)
  refine hK.out _ _ hS9 fun _ => ?_
  clear hK K
  refine wpAnyH_done (by kernel_rfl) ?_ _
  go_wp2_with (fail)
  go_ret
  exact ⟨rfl, HKD.out.trans hS9 fun _ _ e => e⟩
end Go.Proofs.Ytnlklhlnnoihiaa
