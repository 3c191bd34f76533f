/- frame.Decode walked at the example's bytes. Conditions: the bytes lie in memory. -/
import Derived.Test.YtoeipjhdpeibpaaGreatKTkn
namespace Go.Proofs.YtoeipjhdpeibpaaGreat
open Go Go.RowKit

theorem bytes_mid {w : World} {gb o : Nat} {l m : List Int} (h : BytesAt w (some ⟨gb, 0, none⟩) l) (hm : ∀ k (hk : k < m.length), ∃ h2 : o + k < l.length, l[o + k] = m[k]) : BytesAt w (some ⟨gb, o, none⟩) m := fun k hk => by
  obtain ⟨h2, e⟩ := hm k hk
  obtain ⟨ad, e1, e2⟩ := h (o + k) h2
  injection e1 with e1
  subst e1
  refine ⟨_, rfl, ?_⟩
  rw [← e]
  rw [add_none] at e2
  have a2 : (⟨gb, o, none⟩ : Addr).add k = ⟨gb, o + k, none⟩ := by simp [Addr.add]
  rw [a2]
  exact e2
set_option maxRecDepth 100000 in
set_option maxHeartbeats 4000000 in
theorem Decode_ex (gb k : Nat) (hk1 : 19 ≤ k) (w : World) (h : BytesAt w (some ⟨gb, 0, none⟩) exB) :
    Calls Tryz.prog 10 #[.slice (some ⟨gb, 0, none⟩) 19 k] w (fun r w' => ∃ A c, r = .returned (.tuple #[.agg (exC A c), .int .i64 0]) ∧ DotsAt w' A [⟨1, 7⟩] ∧ Kept (fun _ => False) w w') := by
  have hb := (Box.new w 39 frZ).alloc (.cells #[.int .i64 0] 28)
  have he := (Box.new (w.alloc (.cells frZ 39)) 28 #[.int .i64 0]).at_eq (show _ = w.heap.size + 1 by simp)
  have hk := ((Kept.refl (fun _ => False) w).alloc (.cells frZ 39)).alloc (.cells #[.int .i64 0] 28)
  obtain ⟨w1, h1⟩ : ∃ w1, (w.alloc (.cells frZ 39)).alloc (.cells #[.int .i64 0] 28) = w1 := ⟨_, rfl⟩
  rw [h1] at hb he hk
  have HB := Lib.hid hb
  have HE := Lib.hid he
  have HK := Lib.hid hk
  have HW := Lib.hid h1
  have H := Lib.hid h
  unfold frZ at HW
  clear hb he hk h1 h
  go_enter_defers Tryz.func10, Tryz.ntmps10
  go_upto_region 2 with (fail)
  rw [HW.out]
  clear HW
  have HBY := Lib.hid (fun (W : World) (hW : Kept (fun _ => False) w W) (j : Nat) (hj : j < 19) => (show W.cell? ⟨gb, j, none⟩ = some (.int .u8 (exB[j]'hj)) from by
    obtain ⟨ad, e1, e2⟩ := H.out.fresh hW j hj
    injection e1 with e1
    subst e1
    rw [add_none] at e2
    exact e2))
  go_wp2_with (fail)
  refine (word_11 gb 0 19 k (by decide) w1 (HBY.out w1 HK.out 0 (by decide)) (HBY.out w1 HK.out 1 (by decide)) (HBY.out w1 HK.out 2 (by decide)) (HBY.out w1 HK.out 3 (by decide))).mono ?_
  rintro r w2 ⟨rfl, hk2⟩
  have HB2 := Lib.hid (HB.out.kept hk2 id)
  have HE2 := Lib.hid (HE.out.kept hk2 id)
  have HK2 := Lib.hid (HK.out.trans hk2 fun _ _ e => e)
  clear hk2 HB HE HK
  go_wp2_with (fail)
  refine (unless_ok _ _).mono ?_
  rintro r wb ⟨rfl, rfl⟩
  go_wp2_with (fail)
  refine (must_ok _).mono ?_
  rintro r wd ⟨rfl, rfl⟩
  go_upto_region 6 with (fail)
  have HC7 := Lib.hid (fun W (hW : Kept (fun _ => False) w W) => word_sum gb 15 4 (k - 15) (by decide) W (HBY.out W hW 15 (by decide)) (HBY.out W hW 16 (by decide)) (HBY.out W hW 17 (by decide)) (HBY.out W hW 18 (by decide)))
  have HS7 := Lib.hid (fun W (hW : Kept (fun _ => False) w W) => (show Calls Tryz.prog 5 #[.slice (some ⟨gb, 0, none⟩) 15 k] W (SumPost W exHead) from Sum_any (some ⟨gb, 0, none⟩) exHead k W (bytes_mid (H.out.fresh hW) (by decide)) (by unfold isByte exHead; decide) (by decide)))
  have hk15 : (15 : Int) ≤ k := by omega
  have hk15' : 15 ≤ k := by omega
  have hk15n : ¬ k = 15 := by omega
  have hki : ¬ (k : Int) = 15 := by omega
  refine wp_region_class (C := fun w' => Kept (fun _ => False) wd w') (by kernel_rfl) (by kernel_rfl) (Kept.refl _ _).drew ?_
  iterate 11
    first | go_big_quiet_skip | (go_big_quiet_want; first | (go_big_quiet_op; go_big_quiet_on) | (apply Exists.intro; refine ⟨fun w' hS => ?_, ?_⟩; (go_simp; first | rfl | exact ⟨rfl, rfl⟩ | ((with_reducible refine (HC7.out _ (HK2.out.trans hS fun _ _ e => e)).mono ?_); rintro e w2 ⟨rfl, hk⟩; exact ⟨rfl, hS.trans hk fun _ _ e => e⟩) | ((with_reducible refine (HS7.out _ (HK2.out.trans hS fun _ _ e => e)).mono ?_); unfold SumPost; rw [exHead_sum]; rintro e w2 ⟨rfl, hk⟩; exact ⟨rfl, hS.trans hk fun _ _ e => e⟩) | ((with_reducible refine (unless_ok _ _).mono ?_); rintro e w2 ⟨rfl, rfl⟩; exact ⟨rfl, hS⟩) | ((with_reducible refine (must_ok _).mono ?_); rintro e w2 ⟨rfl, rfl⟩; exact ⟨rfl, hS⟩)); (try simp only [Act.put, List.setIfInBounds_toArray, List.set_cons_zero, List.set_cons_succ]); go_big_quiet_on))
  refine wpQuiet_nil ?_
  intro w5 hS
  have HB5 := Lib.hid (HB2.out.kept hS id)
  have HE5 := Lib.hid (HE2.out.kept hS id)
  have HK5 := Lib.hid (HK2.out.trans hS fun _ _ e => e)
  have HRD := Lib.hid (show Calls Tryz.prog 24 #[.slice (some ⟨gb, 4, none⟩) 11 (k - 4)] w5 (ReadPost w5 exBody) from Read_any (some ⟨gb, 4, none⟩) exBody (k - 4) w5 (bytes_mid (H.out.fresh HK5.out) (by decide)) (fun e => by cases e) (by decide))
  clear hS HC7 HS7 HB2 HE2 HK2 hk15 hk15' hk15n hki
  have hk4 : (4 : Int) ≤ k := by omega
  have hk4' : 4 ≤ k := by omega
  have hk4n : ¬ k = 4 := by omega
  have hk15 : (15 : Int) ≤ k := by omega
  have hk15' : 15 ≤ k := by omega
  go_wp2_with (fail)
  refine HRD.out.mono ?_
  rintro r w6 ⟨d, g, rfl, hr6, ⟨hd6, hg6⟩, hk6⟩
  have HB6 := Lib.hid (HB5.out.kept hk6 id)
  have HE6 := Lib.hid (HE5.out.kept hk6 id)
  have HK6 := Lib.hid (HK5.out.trans hk6 fun _ _ e => e)
  have HGB := Lib.hid (show w.heap.size + 1 < g ∧ w.heap.size + 1 < d ∧ g < w6.heap.size ∧ d < w6.heap.size from by have := HE5.out.lt; have := hr6.lt; have := hr6.dlt; omega)
  have HR6 := Lib.hid (show RdAt w6 d g ⟨exBody, 0⟩ from ⟨hr6, by unfold isByte exBody; decide⟩)
  clear hk6 hr6 hd6 hg6 HRD HB5 HE5 HK5 hk4 hk4' hk4n hk15 hk15'
  go_wp2_with (fail)
  refine (taken_ex d g w6 HR6.out HGB.out.2.2.1 HGB.out.2.2.2).mono ?_
  rintro r w7 ⟨A, c, rfl, ho7, hk7, hr7⟩
  have HB7 := Lib.hid (HB6.out.kept hk7 (by have := HGB.out; omega))
  have HE7 := Lib.hid (HE6.out.kept hk7 (by have := HGB.out; omega))
  have HK7 := Lib.hid (HK6.out.trans hk7 fun k hk e => by have := HGB.out; omega)
  have HO7 := Lib.hid (own_base ho7 (show w.heap.size ≤ w6.heap.size by have := HGB.out; omega))
  have HR7 := Lib.hid hr7
  clear ho7 hk7 hr7 HB6 HE6 HK6 HR6
  go_wp2_with (refine wpList_store_box rfl 39 _ _ rfl w.heap.size (exC A c) rfl rfl 39 _ HB7.out (size_fr.trans rfl) rfl (fr_one A c) ?_; intro w8 HB8 hk8; refine Hid.out ?_)
  refine Lib.hid ?_
  have HE8 := Lib.hid (HE7.out.kept hk8 (by omega))
  have HK8 := Lib.hid (HK7.out.trans hk8 fun k hk e => by omega)
  have HD8 := Lib.hid (hk8.own HO7.out fun k e1 e2 => own_box_ne HO7.out HB7.out (by decide) (by rw [e1, e2]))
  have HR8 := Lib.hid (HR7.out.kept hk8 (by have := HGB.out; omega) (by have := HGB.out; omega))
  clear hk8 HB7 HE7 HK7 HO7 HR7
  go_wp2_with (fail)
  refine (Left_any d g [] 0 w8 HR8.out.at_).mono ?_
  rintro r w9 ⟨rfl, rfl⟩
  go_wp2_with (fail)
  refine (unless_ok _ _).mono ?_
  rintro r wb ⟨rfl, rfl⟩
  go_wp2_with (fail)
  refine (must_ok _).mono ?_
  rintro r wd2 ⟨rfl, rfl⟩
  go_wp2_with (refine wpList_load_fr rfl _ rfl w.heap.size rfl _ rfl HB8.out ?_)
  refine (Check_ex A c wd2 (DotsAt.of_own HD8.out)).mono ?_
  rintro r w10 ⟨rfl, hk10⟩
  have HB10 := Lib.hid (HB8.out.kept hk10 id)
  have HE10 := Lib.hid (HE8.out.kept hk10 id)
  have HK10 := Lib.hid (HK8.out.trans hk10 fun _ _ e => e)
  have HD10 := Lib.hid (hk10.own HD8.out fun _ _ => id)
  clear hk10 HB8 HE8 HK8 HD8 HR8
  go_wp2_with (fail)
  refine (must_ok _).mono ?_
  rintro r w11 ⟨rfl, rfl⟩
  go_wp2_with (first | (refine wpList_load_fr rfl _ rfl w.heap.size rfl _ rfl HB10.out ?_) | (refine wpList_store_box rfl 39 _ _ rfl w.heap.size (exC A c) rfl rfl 39 _ HB10.out (size_fr.trans rfl) rfl (fr_one A c) ?_; intro w12 HB12 hk12; refine Hid.out ?_))
  refine Lib.hid ?_
  have HE12 := Lib.hid (HE10.out.kept hk12 (by omega))
  have HK12 := Lib.hid (HK10.out.trans hk12 fun k hk e => by omega)
  have HD12 := Lib.hid (hk12.own HD10.out fun k e1 e2 => own_box_ne HD10.out HB10.out (by decide) (by rw [e1, e2]))
  clear hk12 HB10 HE10 HK10 HD10
  have c0 : w12.cell? ⟨w.heap.size + 1, 0, none⟩ = some (.int .i64 0) := (HE12.out.cell 0).trans rfl
  have f0 := HE12.out.frozen 0
  go_wp2_with (fail)
  have he3 : Box (w12.setCell ⟨w.heap.size + 1, 0, none⟩ (.int .i64 0)) (w.heap.size + 1) 28 #[.int .i64 0] := by simpa using HE12.out.set 0 (.int .i64 0)
  have hb3 : Box (w12.setCell ⟨w.heap.size + 1, 0, none⟩ (.int .i64 0)) w.heap.size 39 (exC A c) := HB12.out.far (p := ⟨w.heap.size + 1, 0, none⟩) (by simp) _
  have hd3 := ((Kept.refl (fun k => k = w.heap.size + 1) w12).at 0 (.int .i64 0) (.inl rfl)).own HD12.out fun k e1 e2 => own_box_ne HD12.out HE12.out (by decide) (by rw [e1, e2])
  exact dec_returns rfl rfl hb3 rfl he3 ⟨A, c, rfl, DotsAt.of_own hd3, HK12.out.at 0 _ (.inr (by omega))⟩
end Go.Proofs.YtoeipjhdpeibpaaGreat
