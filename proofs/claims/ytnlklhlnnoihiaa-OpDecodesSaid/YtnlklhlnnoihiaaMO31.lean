/- The walks of hearsayref6.Text, hearsayref8.Put and hearsayref8.Encode. Conditions: the bytes and the operation lie in memory; nothing is longer than a million. -/
import Derived.Test.YtnlklhlnnoihiaaMO29
import Derived.Test.YtnlklhlnnoihiaaMO30
namespace Go.Proofs.Ytnlklhlnnoihiaa
open Go Go.RowKit

set_option maxRecDepth 100000 in
set_option maxHeartbeats 3200000 in
theorem RWText_any (A : Option Addr) (l : List Int) (c : Nat) (e : Int) (s : ByteArray) (w : World) (h : RB w A l c) (hl : l.length ≤ 1000000) (hs : s.size ≤ 1000000) :
    Calls Try.prog 38 #[.agg #[.slice A l.length c, .int .i64 e], .string s] w (RWPost w A l (layB l e (enc s.size ++ tb s)) e) := by
  have hk0 : Kept (fun _ => False) w ((w.alloc (.cells #[.slice A l.length c, .int .i64 e] 75)).alloc (.cells #[.slice none 0 0, .int .i64 0] 75)) := ((Kept.refl _ _).alloc _).alloc _
  have HAT := Lib.hid (show RPAt w w.heap.size A l l e ((w.alloc (.cells #[.slice A l.length c, .int .i64 e] 75)).alloc (.cells #[.slice none 0 0, .int .i64 0] 75)) from by
    refine ⟨⟨A, c, (Box.new w _ _).alloc _, h.fresh hk0, .inl ⟨rfl, rfl⟩⟩, ?_, fun hl a ha => h.block_lt hl a ha, hk0, Nat.le_refl _⟩
    exact (Box.new (w.alloc (.cells #[.slice A l.length c, .int .i64 e] 75)) 75 #[.slice none 0 0, .int .i64 0]).at_eq (by simp))
  have HN := Lib.hid (layB_num l e s.size)
  have HA := Lib.hid (layB_app l e (enc s.size) (tb s))
  have hel : (enc s.size).length ≤ 9 := enc_len9 _ (by omega)
  have hll := layB_len l e (enc s.size)
  obtain ⟨i0, hi, hz0, hz1, hz2⟩ := info_parts info_byte
  clear h hk0
  go_enter Try.func38, Try.ntmps38
  go_upto_region 1 with (fail)
  generalize (w.alloc (.cells #[.slice A l.length c, .int .i64 e] 75)).alloc (.cells #[.slice none 0 0, .int .i64 0] 75) = w0 at HAT ⊢
  obtain ⟨A2, c2, hb2, hr2, hn2⟩ := HAT.out.box
  have x0 : w0.cell? ⟨w.heap.size, 0, none⟩ = some (.slice A2 l.length c2) := by simpa [wrV] using hb2.cell 0
  have x1 : w0.cell? ⟨w.heap.size, 1, none⟩ = some (.int .i64 e) := by simpa [wrV] using hb2.cell 1
  have HR2 := Lib.hid hr2
  have HN2 := Lib.hid hn2
  have HB2 := Lib.hid hb2
  clear hb2 hr2 hn2
  go_wp2_with (fail)
  refine (RWNum_any A2 l c2 e s.size w0 HR2.out hl (by omega)).mono ?_
  rw [HN.out.1, HN.out.2]
  obtain ⟨l1, hl1⟩ : ∃ l1, layB l e (enc s.size) = l1 := ⟨_, rfl⟩
  rw [hl1] at HA hll ⊢
  clear hl1 HN
  rintro e3 w3 ⟨A3, c3, rfl, hr3, hl3, hk3⟩
  have HB3 := Lib.hid (HB2.out.kept hk3 id)
  have HST := Lib.hid (fun (w4 : World) (hb : Box w4 w.heap.size 75 (wrV A3 l1 c3 e)) (hk4 : Kept (fun k => k = w.heap.size) w3 w4) => HAT.out.store HN2.out hk3 hr3 hl3 hb hk4)
  clear hr3 hl3 hk3 x0 x1
  go_wp2_with (refine wpList_store_box rfl 75 _ _ rfl w.heap.size (wrV A3 l1 c3 e) rfl rfl 75 (wrV A2 l c2 e) HB3.out (size_RW.trans rfl) rfl (wrV_one _ _ _ _) ?_; intro w4 HB4 hk4; refine Hid.out ?_)
  refine Lib.hid ?_
  have HA4 := Lib.hid (HST.out w4 HB4.out hk4)
  clear hk4 HB4 HST HB3 HB2 HN2 HR2 HAT
  obtain ⟨A2, c2, hb2, hr2, hn2⟩ := HA4.out.box
  have x0 : w4.cell? ⟨w.heap.size, 0, none⟩ = some (.slice A2 l1.length c2) := by simpa [wrV] using hb2.cell 0
  have x1 : w4.cell? ⟨w.heap.size, 1, none⟩ = some (.int .i64 e) := by simpa [wrV] using hb2.cell 1
  have HR2 := Lib.hid hr2
  have HN2 := Lib.hid hn2
  have HB2 := Lib.hid hb2
  clear hb2 hr2 hn2
  by_cases he : e = 0
  · subst he
    go_wp2_with (at_builtin; refine Hid.out ?_)
    refine Lib.hid ?_
    refine wpList_append_copy eltBytes rfl _ _ rfl rfl A2 l1.length c2 (bys l1) rfl HR2.out.none' (by rw [bys_len]; omega) HR2.out.cells (bys_one l1) (by omega) ?_
    intro A5 c5 w5 HO5 HK5
    have y0 : w5.cell? ⟨w.heap.size, 0, none⟩ = some (.slice A2 l1.length c2) := by simpa [wrV] using (HB2.out.kept HK5.out id).cell 0
    have HB5 := Lib.hid (HB2.out.kept HK5.out id)
    have HZ5 := Lib.hid (HA4.out.res.kept HK5.out id)
    have HS5 := Lib.hid (show w.heap.size + 2 ≤ w4.heap.size by have := HA4.out.res.lt; omega)
    have HKK := Lib.hid (HA4.out.k.trans HK5.out fun _ _ e => e)
    clear x0 x1 HB2 HR2 HN2 HA4
    go_wp2_with (at_builtin; refine Hid.out ?_)
    refine Lib.hid ?_
    refine wpList_append_str rfl _ _ 41 9 rfl w4.heap.size 5 i0 Try.underlying41 Try.underlying9 hi hz0 hz1 hz2 _ _ (bys l1) rfl HO5.out s rfl (by unfold maxLen; omega) (by omega) HK5.out.size ?_
    intro v' w6 hown6 hg6 hgo6
    have hlt := fun k hk => (HO5.out.lt k hk).1
    have hk6 : Kept (fun k => (Value.slice A5 l1.length c5).ownBlock = some k) w5 w6 := Kept.of_grown hg6 |>.more fun k _ e => e
    have hb6 : Box w6 w.heap.size 75 (wrV A2 l1 c2 0) := HB5.out.kept hk6 fun e => by have := hlt _ e; have := HS5.out; omega
    have hz6 : Box w6 (w.heap.size + 1) 75 (wrV none [] 0 0) := HZ5.out.kept hk6 fun e => by have := hlt _ e; have := HS5.out; omega
    have hown6' : w6.ownsRow w4.heap.size 5 1 v' (l1 ++ tb s).length (bys (l1 ++ tb s)) := by rw [List.length_append, tb_len, bys_app, bys_tb]; exact hown6
    obtain ⟨l6, hl6⟩ : ∃ l6, l1 ++ tb s = l6 := ⟨_, rfl⟩
    rw [hl6] at hown6'
    have HL6 := Lib.hid hl6
    clear hl6
    obtain ⟨A6, c6, hv6⟩ : ∃ A2 c2, v' = .slice A2 l6.length c2 := own_form hown6'
    subst hv6
    have hkk6 : Kept (fun _ => False) w w6 := HKK.out.trans hk6 fun k hk e => by have := hlt _ e; have := HS5.out; omega
    have f0 : w6.frozen? ⟨w.heap.size, 0, none⟩ = false := hb6.frozen 0
    have z0 : w6.cell? ⟨w.heap.size, 0, none⟩ = some (.slice A2 l1.length c2) := by simpa [wrV] using hb6.cell 0
    have z1 : w6.cell? ⟨w.heap.size, 1, none⟩ = some (.int .i64 0) := by simpa [wrV] using hb6.cell 1
    have hk7 : Kept (fun k => k = w.heap.size) w6 (w6.setCell ⟨w.heap.size, 0, none⟩ (.slice A6 l6.length c6)) := (Kept.refl _ _).at 0 _ (.inl rfl)
    have HB7 := Lib.hid (show Box (w6.setCell ⟨w.heap.size, 0, none⟩ (.slice A6 l6.length c6)) w.heap.size 75 (wrV A6 l6 c6 0) by simpa [wrV] using hb6.set 0 (.slice A6 l6.length c6))
    have HZ7 := Lib.hid (hz6.kept hk7 (by omega))
    have HK7 := Lib.hid (hkk6.trans hk7 fun k hk e => by omega)
    have HO7 := Lib.hid (hk7.own hown6' fun k e1 e2 => by have := (hown6'.lt k e1).1; have := HS5.out; omega)
    have HLS := Lib.hid (show Lies w.heap.size A l A6 l6 from Lies.of_own hown6' (by have := HS5.out; omega))
    clear hown6 hg6 hgo6 hk6 hb6 hz6 hkk6 hk7 y0 HB5 HZ5 HKK HO5 HK5 hlt
    go_upto_region 7 with (fail)
    clear z0 z1 f0 hown6'
    generalize w6.setCell ⟨w.heap.size, 0, none⟩ (.slice A6 l6.length c6) = w7 at HB7 HZ7 HK7 HO7 ⊢
    have z0 : w7.cell? ⟨w.heap.size, 0, none⟩ = some (.slice A6 l6.length c6) := by simpa [wrV] using HB7.out.cell 0
    have z1 : w7.cell? ⟨w.heap.size, 1, none⟩ = some (.int .i64 0) := by simpa [wrV] using HB7.out.cell 1
    go_wp2_with (refine wpList_store_box rfl 75 _ _ rfl (w.heap.size + 1) (wrV A6 l6 c6 0) rfl rfl 75 (wrV none [] 0 0) HZ7.out (size_RW.trans rfl) rfl (wrV_one _ _ _ _) ?_; intro w8 HB8 hk8; refine Hid.out ?_)
    refine Lib.hid ?_
    have HR8 := Lib.hid (RB.of_own (hk8.own HO7.out fun k e1 e2 => by have := (HO7.out.lt k e1).1; have := HS5.out; omega))
    have HK8 := Lib.hid (HK7.out.trans hk8 fun k hk e => by omega)
    clear hk8 z0 z1 HB7 HZ7 HK7 HO7
    go_wp2
    refine bodyPost_ret (results_cell_row (show Try.f38.results = #[.cell 4 75] by kernel_rfl) _ _ (w.heap.size + 1) 75 (wrV A6 l6 c6 0) (0, 0) _ rfl HB8.out Try.underlying75 rfl (size_RW.trans rfl)) rfl ?_
    rw [← HA.out, show layB l1 0 (tb s) = l6 from HL6.out]
    exact ⟨A6, c6, rfl, HR8.out, HLS.out, HK8.out⟩
  · have HE := Lib.hid he
    have hne : (e != 0) = true := bne_iff_ne.2 he
    have HZ4 := Lib.hid HA4.out.res
    go_wp2_with (refine wpList_store_box rfl 75 _ _ rfl (w.heap.size + 1) (wrV A2 l1 c2 e) rfl rfl 75 (wrV none [] 0 0) HZ4.out (size_RW.trans rfl) rfl (wrV_one _ _ _ _) ?_; intro w8 HB8 hk8; refine Hid.out ?_)
    refine Lib.hid ?_
    have HLS := Lib.hid (HN2.out.less (M := w.heap.size) (by omega))
    have HR8 := Lib.hid (HR2.out.kept hk8 fun hl a ha e => (RPAt.off HA4.out.old HN2.out hl a ha) (.inr e))
    have HK8 := Lib.hid (HA4.out.k.trans hk8 fun k hk e => by omega)
    clear hk8 x0 x1 HB2 HR2 HN2 HA4 HZ4
    go_wp2
    refine bodyPost_ret (results_cell_row (show Try.f38.results = #[.cell 4 75] by kernel_rfl) _ _ (w.heap.size + 1) 75 (wrV A2 l1 c2 e) (0, 0) _ rfl HB8.out Try.underlying75 rfl (size_RW.trans rfl)) rfl ?_
    rw [← HA.out]
    rw [show layB l1 e (tb s) = l1 from if_pos HE.out]
    exact ⟨A2, c2, rfl, HR8.out, HLS.out, HK8.out⟩
end Go.Proofs.Ytnlklhlnnoihiaa
