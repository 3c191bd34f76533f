/- The walk of OpChecks: it is true. Conditions: the operation lies in memory. · The row's last step for a law: it returns true, and below the old heap's end nothing has turned: so each argument reads as it did. No condition. · OpChecks returns true for any operation, Dot, run and number, and leaves what was there as it was. No condition. -/
import Derived.Test.YtnlklhlnnoihiaaMO38
import Derived.Test.YtnlklhlnnoihiaaRows
import Derived.Test.YtnlklhlnnoihiaaMO1
import Derived.ProofKit
import Derived.OpenShut
import Derived.Test.YtnlklhlnnoihiaaMO12
namespace Go.Proofs.Ytnlklhlnnoihiaa
open Go Go.RowKit

theorem RCheck_lop (x : Lop) (w : World) (hx : x.At w) (hs : x.o.Small) : Calls Try.prog 16 #[.agg x.c] w (IntPost w (opE x.o)) := RefCheck_any x.o x.dA x.gA x.dc x.gc w (hx.opr hs)
theorem TwinAt.small {W : World} {base : Nat} {o : Opr} {y : Lop} (h : TwinAt W base o y) (hs : o.Small) : y.o.Small := by rw [h.eq]; exact hs
set_option maxRecDepth 100000 in
set_option maxHeartbeats 3200000 in
theorem Checks_walk (x : Lop) (d : Dt) (g : Rn) (i : Int) (w : World) (hx : x.At w) (hn : x.Nil) (hc : ∀ r ∈ x.o.gone, inI r.count) (hg : inI g.count) (hi : inI i) :
    Calls Try.prog 3 #[.agg x.c, .agg #[.int .i64 d.site, .int .i64 d.seq], .agg #[.int .i64 g.id.time, .int .i64 g.id.site, .int .i64 g.count], .int .i64 i] w (KnownPost w) := by
  have hk0 : Kept (fun _ => False) w (((w.alloc (.cells x.c 30)).alloc (.cells #[.int .i64 d.site, .int .i64 d.seq] 23)).alloc (.cells #[.int .i64 g.id.time, .int .i64 g.id.site, .int .i64 g.count] 32)) := (((Kept.refl _ _).alloc _).alloc _).alloc _
  have HK := Lib.hid hk0
  have HX := Lib.hid (hx.fresh hk0)
  have HB := Lib.hid (((Box.new w 30 x.c).alloc (.cells #[.int .i64 d.site, .int .i64 d.seq] 23)).alloc (.cells #[.int .i64 g.id.time, .int .i64 g.id.site, .int .i64 g.count] 32))
  have HD := Lib.hid (((Box.new (w.alloc (.cells x.c 30)) 23 #[.int .i64 d.site, .int .i64 d.seq]).at_eq (show _ = w.heap.size + 1 by simp)).alloc (.cells #[.int .i64 g.id.time, .int .i64 g.id.site, .int .i64 g.count] 32))
  have HG := Lib.hid ((Box.new ((w.alloc (.cells x.c 30)).alloc (.cells #[.int .i64 d.site, .int .i64 d.seq] 23)) 32 #[.int .i64 g.id.time, .int .i64 g.id.site, .int .i64 g.count]).at_eq (show _ = w.heap.size + 2 by simp))
  have HN := Lib.hid hn
  have HC := Lib.hid hc
  have HGI := Lib.hid hg
  have HII := Lib.hid hi
  have HLG := Lib.hid (fun W => Long_any x W)
  have HTW := Lib.hid (fun W (h1 : x.At W) (h2 : x.o.Small) => twin_any x W h1 hn h2)
  have HRC := Lib.hid (fun W (h1 : x.At W) (h2 : x.o.Small) => RCheck_lop x W h1 h2)
  have HRL := Lib.hid (fun W (h1 : x.At W) (h2 : x.o.Small) => RLast_any x W h1 h2)
  have HST := Lib.hid (fun (y : Lop) (base : Nat) (W : World) (hy : TwinAt W base x.o y) (h1 : x.At W) (h2 : x.o.Small) => Stands8_any x y base W hy h1 h2.dl h2.gl)
  obtain ⟨cs, hcs⟩ : ∃ cs, x.c = cs := ⟨_, rfl⟩
  have HSZ := Lib.hid (show cs.size = 11 by rw [← hcs]; rfl)
  rw [hcs] at HK HX HB HD HG HLG HTW HRC HRL HST ⊢
  clear hk0 hx hn hc hg hi hcs
  go_enter Try.func3, Try.ntmps3
  go_upto_region 1 with (fail)
  generalize ((w.alloc (.cells cs 30)).alloc (.cells _ 23)).alloc (.cells _ 32) = w0 at HK HX HB HD HG ⊢
  go_wp2_with (refine wpList_load_op rfl _ rfl w.heap.size rfl _ cs HSZ.out HB.out ?_)
  refine (HLG.out w0).mono ?_
  cases hl : isLong x.o with
  | true =>
    rintro r w1 ⟨rfl, hk⟩
    have HK1 := Lib.hid (HK.out.trans hk fun _ _ e => e)
    clear hk
    go_wp2_with (fail)
    refine (Known8_any w1).mono ?_
    rintro r w2 ⟨rfl, hk⟩
    have HK2 := Lib.hid (HK1.out.trans hk fun _ _ e => e)
    clear hk
    go_wp2_with (fail)
    go_ret
    exact ⟨rfl, HK2.out⟩
  | false =>
    rintro r w1 ⟨rfl, hk⟩
    have HSM := Lib.hid (show x.o.Small from by
      have := of_decide_eq_false hl
      exact ⟨HC.out, by omega, by omega, by omega⟩)
    have HK1 := Lib.hid (HK.out.trans hk fun _ _ e => e)
    have HX1 := Lib.hid (HX.out.fresh hk)
    have HB1 := Lib.hid (HB.out.kept hk id)
    have HD1 := Lib.hid (HD.out.kept hk id)
    have HG1 := Lib.hid (HG.out.kept hk id)
    clear hk hl HK HX HB HD HG HLG
    go_wp2_with (refine wpList_load_op rfl _ rfl w.heap.size rfl _ cs HSZ.out HB1.out ?_)
    refine (HTW.out w1 HX1.out HSM.out).mono ?_
    rintro r w2 ⟨y, rfl, hy, hk⟩
    have HY2 := Lib.hid (hy.older (show w.heap.size + 3 ≤ _ from HG1.out.lt))
    have HX2 := Lib.hid (HX1.out.fresh hk)
    have HB2 := Lib.hid (HB1.out.kept hk id)
    have HD2 := Lib.hid (HD1.out.kept hk id)
    have HG2 := Lib.hid (HG1.out.kept hk id)
    have HK2 := Lib.hid (HK1.out.trans hk fun _ _ e => e)
    have HYS := Lib.hid (hy.small HSM.out)
    have HLY := Lib.hid (fun W h1 => OpLast_any y W h1 HYS.out)
    have HCY := Lib.hid (fun W h1 => Check_lop y W h1 HYS.out)
    have HEQ := Lib.hid hy.eq
    obtain ⟨ys, hys⟩ : ∃ ys, y.c = ys := ⟨_, rfl⟩
    have HYC := Lib.hid hys
    have HZY := Lib.hid (show ys.size = 11 by rw [← hys]; rfl)
    have HOY := Lib.hid (show ys.all (·.oneCell') = true by rw [← hys]; exact Opr.cells_one _ _ _ _ _)
    rw [hys] at HLY HCY ⊢
    clear hk hy hys HX1 HB1 HD1 HG1 HK1 HTW
    have hka : Kept (fun _ => False) w2 (w2.alloc (.cells zeroC 30)) := (Kept.refl _ _).alloc _
    have HM := Lib.hid (Box.new w2 30 zeroC)
    have HYA := Lib.hid (HY2.out.fresh hka)
    have hw2 : w.heap.size + 2 < w2.heap.size := HG2.out.lt
    have HOLD := Lib.hid (fun k (e : (Value.slice y.dA (x.o.deps.length + 1) y.dc).ownBlock = some k) => (HY2.out.d.lt k e).2)
    have HOLG := Lib.hid (fun k (e : (Value.slice y.gA (x.o.gone.length + 1) y.gc).ownBlock = some k) => (HY2.out.g.lt k e).2)
    go_wp2_with (refine wpList_store_box rfl 30 _ _ rfl w2.heap.size ys rfl rfl 30 zeroC HM.out (by rw [HZY.out]; exact size_op) HZY.out.symm HOY.out ?_; intro w3 HM3 hk3; refine Hid.out ?_)
    refine Lib.hid ?_
    have hk23 := hka.trans hk3 fun k hk e => by omega
    have HX3 := Lib.hid (HX2.out.fresh hk23)
    have HB3 := Lib.hid (HB2.out.kept hk23 id)
    have HD3 := Lib.hid (HD2.out.kept hk23 id)
    have HG3 := Lib.hid (HG2.out.kept hk23 id)
    have HK3 := Lib.hid (HK2.out.trans hk23 fun _ _ e => e)
    have HY3 := Lib.hid (HY2.out.fresh hk23)
    obtain ⟨M, hM⟩ : ∃ M, w2.heap.size = M := ⟨_, rfl⟩
    rw [hM] at HM3 hw2 HOLD HOLG ⊢
    clear hka hk3 hk23 HM HYA HX2 HB2 HD2 HG2 HK2 HY2 hM
    go_upto_region 4 with (fail)
    have hkd : Kept (fun _ => False) w3 w3.drew := (Kept.refl _ _).drew
    have HXD := Lib.hid (HX3.out.fresh hkd)
    have HBD := Lib.hid (HB3.out.kept hkd id)
    have HDD := Lib.hid (HD3.out.kept hkd id)
    have HGD := Lib.hid (HG3.out.kept hkd id)
    have HMD := Lib.hid (HM3.out.kept hkd id)
    have HKD := Lib.hid (HK3.out.trans hkd fun _ _ e => e)
    have HYD := Lib.hid (HY3.out.fresh hkd)
    clear hkd HX3 HB3 HD3 HG3 HM3 HK3 HY3

    refine wp_region_held_drew (S := fun Wz => Kept (fun _ => False) w3.drew Wz) (by kernel_rfl) (Kept.refl _ _) fun hS => ?_
    generalize w3.drew = W at HXD HBD HDD HGD HMD HKD HYD hS ⊢
    refine held_takeTo 15 (i := 0) (v := .agg ys) rfl rfl (by kernel_rfl) (by kernel_rfl) (by kernel_rfl) (fun _ _ _ h => h) rfl hS (fun Wz hW => run_load_op _ _ rfl M rfl _ ys HZY.out (HMD.out.kept hW id)) ?_
    simp only [List.setIfInBounds_toArray, List.set_cons_zero, List.set_cons_succ]
    refine held_takeTo 17 (i := 2) (v := .agg cs) rfl rfl (by kernel_rfl) (by kernel_rfl) (by kernel_rfl) (fun _ _ _ h => h) rfl hS (fun Wz hW => run_load_op _ _ rfl w.heap.size rfl _ cs HSZ.out (HBD.out.kept hW id)) ?_
    simp only [List.setIfInBounds_toArray, List.set_cons_zero, List.set_cons_succ]
    refine held_one (i := 1) (by kernel_rfl) rfl fun K hK => ?_
    go_wp2_with (fail)
    refine (HCY.out W HYD.out.at).mono ?_
    unfold IntPost
    rintro r v1 ⟨rfl, hk⟩
    have hS1 := hS.trans hk fun _ _ e => e
    clear hk
    rw [HEQ.out]
    go_wp2_with (fail)
    refine hK.out _ _ hS1 fun _ => ?_
    clear hK K
    refine held_one (i := 3) (by kernel_rfl) rfl fun K hK => ?_
    go_wp2_with (fail)
    refine (HRC.out v1 (HXD.out.fresh hS1) HSM.out).mono ?_
    unfold IntPost
    rintro r v2 ⟨rfl, hk⟩
    have hS2 := hS1.trans hk fun _ _ e => e
    clear hk
    go_wp2_with (fail)
    refine hK.out _ _ hS2 fun _ => ?_
    clear hK K
    refine held_one (i := 4) (by kernel_rfl) rfl fun K hK => ?_
    go_wp2_with (fail)
    refine hK.out _ _ hS2 fun _ => ?_
    clear hK K
    refine held_one (i := 5) (by kernel_rfl) rfl fun K hK => ?_
    go_wp2_with (fail)
    refine hK.out _ _ hS2 fun _ => ?_
    clear hK K
    refine held_takeG 21 (i := 6) (v := .agg ys) rfl rfl (by kernel_rfl) (by kernel_rfl) (by kernel_rfl) (fun _ _ _ h => h) (by rfl) hS2 (fun Wz hW => run_load_op _ _ rfl M rfl _ ys HZY.out (HMD.out.kept hW id)) ?_
    simp only [List.setIfInBounds_toArray, List.set_cons_zero, List.set_cons_succ]
    refine held_takeG 23 (i := 8) (v := .agg cs) rfl rfl (by kernel_rfl) (by kernel_rfl) (by kernel_rfl) (fun _ _ _ h => h) (by rfl) hS2 (fun Wz hW => run_load_op _ _ rfl w.heap.size rfl _ cs HSZ.out (HBD.out.kept hW id)) ?_
    simp only [List.setIfInBounds_toArray, List.set_cons_zero, List.set_cons_succ]
    refine held_one (i := 7) (by kernel_rfl) rfl fun K hK => ?_
    go_wp2_with (fail)
    refine (HLY.out v2 (HYD.out.at.fresh hS2)).mono ?_
    unfold IntPost
    rintro r v3 ⟨rfl, hk⟩
    have hS3 := hS2.trans hk fun _ _ e => e
    clear hk
    rw [HEQ.out]
    go_wp2_with (fail)
    refine hK.out _ _ hS3 fun _ => ?_
    clear hK K
    refine held_one (i := 9) (by kernel_rfl) rfl fun K hK => ?_
    go_wp2_with (fail)
    refine (HRL.out v3 (HXD.out.fresh hS3) HSM.out).mono ?_
    unfold IntPost
    rintro r v4 ⟨rfl, hk⟩
    have hS4 := hS3.trans hk fun _ _ e => e
    clear hk
    go_wp2_with (fail)
    refine hK.out _ _ hS4 fun _ => ?_
    clear hK K
    refine held_one (i := 10) (by kernel_rfl) rfl fun K hK => ?_
    go_wp2_with (fail)
    refine hK.out _ _ hS4 fun _ => ?_
    clear hK K
    refine held_one (i := 11) (by kernel_rfl) rfl fun K hK => ?_
    go_wp2_with (fail)
    refine hK.out _ _ hS4 fun _ => ?_
    clear hK K
    refine held_one (i := 12) (by kernel_rfl) rfl fun K hK => ?_
    go_wp2_with (fail)
    refine hK.out _ _ hS4 fun _ => ?_
    clear hK K
    refine held_takeG 28 (i := 13) (v := .agg ys) rfl rfl (by kernel_rfl) (by kernel_rfl) (by kernel_rfl) (fun _ _ _ h => h) (by rfl) hS4 (fun Wz hW => run_load_op _ _ rfl M rfl _ ys HZY.out (HMD.out.kept hW id)) ?_
    simp only [List.setIfInBounds_toArray, List.set_cons_zero, List.set_cons_succ]
    refine held_takeG 29 (i := 14) (v := .agg cs) rfl rfl (by kernel_rfl) (by kernel_rfl) (by kernel_rfl) (fun _ _ _ h => h) (by rfl) hS4 (fun Wz hW => run_load_op _ _ rfl w.heap.size rfl _ cs HSZ.out (HBD.out.kept hW id)) ?_
    simp only [List.setIfInBounds_toArray, List.set_cons_zero, List.set_cons_succ]
    refine held_one (i := 15) (by kernel_rfl) rfl fun K hK => ?_
    go_wp2_with (fail)
    have hcall := HST.out y (w.heap.size + 3) v4 (HYD.out.fresh hS4) (HXD.out.fresh hS4) HSM.out
    rw [HYC.out] at hcall
    refine hcall.mono ?_
    clear hcall
    rintro r v5 ⟨rfl, hk⟩
    have hS5 := hS4.trans hk fun _ _ e => e
    clear hk
    go_wp2_with (fail)
    refine hK.out _ _ hS5 fun _ => ?_
    clear hK K
    refine held_one (i := 16) (by kernel_rfl) rfl fun K hK => ?_
    go_wp2_with (fail)
    refine hK.out _ _ hS5 fun _ => ?_
    clear hK K
    refine held_one (i := 17) (by kernel_rfl) rfl fun K hK => ?_
    go_wp2_with (fail)
    refine hK.out _ _ hS5 fun _ => ?_
    clear hK K
    refine wpAnyH_done (by kernel_rfl) ?_ _
    have HT5 := Lib.hid (show TuAt w x y ys M d g x.o.deps x.o.gone v5 from ⟨HMD.out.kept hS5 id, HDD.out.kept hS5 id, HGD.out.kept hS5 id, (HYD.out.fresh hS5).d, (HYD.out.fresh hS5).g, rfl, rfl, HC.out, HKD.out.trans hS5 fun _ _ e => e⟩)
    have HC2 := Lib.hid (show ys[2]? = some (.slice y.dA x.o.deps.length y.dc) by rw [← HYC.out, ← HEQ.out]; rfl)
    have HC9 := Lib.hid (show ys[9]? = some (.slice y.gA x.o.gone.length y.gc) by rw [← HYC.out, ← HEQ.out]; rfl)
    clear hS hS1 hS2 hS3 hS4 hS5 HXD HDD HGD HMD HKD HYD HBD HRC HRL HST HLY HCY
    have hii := HII.out
    unfold inI at hii
    go_upto_if 34 with (fail)
    go_cut [3] (fun v wx => (∃ j : Nat, v = .int .i64 j ∧ j ≤ 9223372036854775807) ∧ v5 = wx)
    case first =>
      by_cases hneg : i < 0
      · obtain ⟨j, hj⟩ : ∃ j : Nat, -(i + 1) = j := ⟨(-(i + 1)).toNat, by omega⟩
        have hw1 : IntKind.i64.wrap (i + 1) = i + 1 := IntWalk.i64_in _ ⟨by omega, by omega⟩
        have hw2 : IntKind.i64.wrap (-(i + 1)) = (j : Int) := by rw [hj]; exact IntWalk.i64_in _ ⟨by omega, by omega⟩
        go_wp2
        go_meet
        case rel => exact ⟨⟨j, rfl, by omega⟩, rfl⟩
      · obtain ⟨j, rfl⟩ : ∃ j : Nat, i = j := ⟨i.toNat, by omega⟩
        go_wp2
        go_meet
        case rel => exact ⟨⟨j, rfl, by omega⟩, rfl⟩
    case rest =>
    obtain ⟨⟨j, rfl, hj⟩, rfl⟩ := hcut
    clear hii
    have x2 : v5.cell? ⟨M, 2, none⟩ = some (.slice y.dA x.o.deps.length y.dc) := (HT5.out.b.cell 2).trans HC2.out
    have hlen := HSM.out.dl
    go_upto_if 41 with (fail)
    go_cut [3] (fun v wx => v = .int .i64 j ∧ ∃ dl, TuAt w x y ys M d g dl x.o.gone wx)
    case first =>
      by_cases hn : 0 < x.o.deps.length
      · have hlt : j % x.o.deps.length < x.o.deps.length := Nat.mod_lt _ hn
        go_upto_region 9 with (fail)
        have HT9 := Lib.hid (HT5.out.fresh (Kept.refl (fun _ => False) v5).drew)
        clear HT5 x2
        obtain ⟨gd, a0, a1, hA, n1, n2, y0, y1, hf, hT, hK⟩ := HT9.out.turnD hlt
        have HTT := Lib.hid hT
        have HKK := Lib.hid hK
        have f0 := hf (j % x.o.deps.length * 2)
        have f1 := hf (j % x.o.deps.length * 2 + 1)
        have HB9 := Lib.hid HT9.out.b
        have HD9 := Lib.hid HT9.out.bd
        have HC2' := HC2.out
        rw [hA] at HC2'
        clear hT hK hf
        have hne : ¬ x.o.deps = [] := fun e => by rw [e] at hn; simp at hn
        refine wp_region_held_drew (S := fun Wz => Kept (fun k => k = gd) v5.drew Wz) (by kernel_rfl) (Kept.refl _ _) fun hS => ?_
        generalize v5.drew = W9 at HT9 HTT HKK HB9 HD9 y0 y1 f0 f1 hS ⊢
        refine held_takeTo 42 (i := 0) (v := .pointer (some ⟨M, 2, none⟩)) rfl rfl (by kernel_rfl) (by kernel_rfl) (by kernel_rfl) (fun _ _ _ h => h) rfl hS (fun Wz hW => by go_simp) ?_
        simp only [List.setIfInBounds_toArray, List.set_cons_zero, List.set_cons_succ]
        refine held_takeTo 43 (i := 1) (v := .slice (some ⟨gd, 0, none⟩) x.o.deps.length y.dc) rfl rfl (by kernel_rfl) (by kernel_rfl) (by kernel_rfl) (fun _ _ _ h => h) rfl hS (fun Wz hW => by (have h0 := ((HB9.out.kept hW (Ne.symm n1)).cell 2).trans HC2'; go_simp)) ?_
        simp only [List.setIfInBounds_toArray, List.set_cons_zero, List.set_cons_succ]
        refine held_takeTo 44 (i := 2) (v := .int .i64 j) rfl rfl (by kernel_rfl) (by kernel_rfl) (by kernel_rfl) (fun _ _ _ h => h) rfl hS (fun Wz hW => by go_simp) ?_
        simp only [List.setIfInBounds_toArray, List.set_cons_zero, List.set_cons_succ]
        refine held_takeTo 45 (i := 3) (v := .pointer (some ⟨M, 2, none⟩)) rfl rfl (by kernel_rfl) (by kernel_rfl) (by kernel_rfl) (fun _ _ _ h => h) rfl hS (fun Wz hW => by go_simp) ?_
        simp only [List.setIfInBounds_toArray, List.set_cons_zero, List.set_cons_succ]
        refine held_takeTo 46 (i := 4) (v := .slice (some ⟨gd, 0, none⟩) x.o.deps.length y.dc) rfl rfl (by kernel_rfl) (by kernel_rfl) (by kernel_rfl) (fun _ _ _ h => h) rfl hS (fun Wz hW => by (have h0 := ((HB9.out.kept hW (Ne.symm n1)).cell 2).trans HC2'; go_simp)) ?_
        simp only [List.setIfInBounds_toArray, List.set_cons_zero, List.set_cons_succ]
        refine held_takeTo 47 (i := 5) (v := .int .i64 x.o.deps.length) rfl rfl (by kernel_rfl) (by kernel_rfl) (by kernel_rfl) (fun _ _ _ h => h) rfl hS (fun Wz hW => by go_simp) ?_
        simp only [List.setIfInBounds_toArray, List.set_cons_zero, List.set_cons_succ]
        refine held_takeTo 48 (i := 6) (v := .int .i64 (j % x.o.deps.length : Nat)) rfl rfl (by kernel_rfl) (by kernel_rfl) (by kernel_rfl) (fun _ _ _ h => h) rfl hS (fun Wz hW => by (go_simp; exact Int.tmod_eq_emod_of_nonneg (by omega))) ?_
        simp only [List.setIfInBounds_toArray, List.set_cons_zero, List.set_cons_succ]
        refine held_takeTo 49 (i := 7) (v := .agg (#[.int .i64 d.site, .int .i64 d.seq])) rfl rfl (by kernel_rfl) (by kernel_rfl) (by kernel_rfl) (fun _ _ _ h => h) rfl hS (fun Wz hW => by (have e0 : Wz.cell? ⟨w.heap.size + 1, 0, none⟩ = some (.int .i64 d.site) := (HD9.out.kept hW (Ne.symm n2)).cell 0; have e1 : Wz.cell? ⟨w.heap.size + 1, 1, none⟩ = some (.int .i64 d.seq) := (HD9.out.kept hW (Ne.symm n2)).cell 1; go_simp)) ?_
        simp only [List.setIfInBounds_toArray, List.set_cons_zero, List.set_cons_succ]
        refine held_one (i := 8) (by kernel_rfl) rfl fun K hK => ?_
        go_wp2_with (fail)
        refine hK.out _ _ hS fun _ => ?_
        clear hK K
        refine held_one (i := 9) (by kernel_rfl) rfl fun K hK => ?_
        go_wp2_with (fail)
        refine hK.out _ _ HKK.out fun _ => ?_
        clear hK K
        refine wpAnyH_done (by kernel_rfl) ?_ _
        go_wp2_with (fail)
        go_meet
        case rel => exact ⟨rfl, _, HTT.out⟩
      · have h0 : x.o.deps.length = 0 := by omega
        go_wp2
        go_meet
        case rel => exact ⟨rfl, _, HT5.out⟩
    case rest =>
    obtain ⟨rfl, dl, hT⟩ := hcut
    have HT5 := Lib.hid hT
    clear hT x2
    obtain ⟨v6, hv6⟩ : ∃ v6, wc = v6 := ⟨_, rfl⟩
    rw [hv6] at HT5 ⊢
    clear hv6 hlen
    have x9 : v6.cell? ⟨M, 9, none⟩ = some (.slice y.gA x.o.gone.length y.gc) := (HT5.out.b.cell 9).trans HC9.out
    have hlen := HSM.out.gl
    go_upto_if 54 with (fail)
    go_cut [3] (fun v wx => ∃ dl gl, TuAt w x y ys M d g dl gl wx)
    case first =>
      by_cases hn : 0 < x.o.gone.length
      · have hlt : j % x.o.gone.length < x.o.gone.length := Nat.mod_lt _ hn
        go_upto_region 11 with (fail)
        have HT9 := Lib.hid (HT5.out.fresh (Kept.refl (fun _ => False) v6).drew)
        clear HT5 x9
        obtain ⟨gd, a0, a1, a2, hA, n1, n2, y0, y1, y2, hf, hT, hK⟩ := HT9.out.turnG HGI.out hlt
        have HTT := Lib.hid hT
        have HKK := Lib.hid hK
        have f0 := hf (j % x.o.gone.length * 3)
        have f1 := hf (j % x.o.gone.length * 3 + 1)
        have f2 := hf (j % x.o.gone.length * 3 + 2)
        have HB9 := Lib.hid HT9.out.b
        have HD9 := Lib.hid HT9.out.bg
        have HC9' := HC9.out
        rw [hA] at HC9'
        clear hT hK hf
        have hne : ¬ x.o.gone = [] := fun e => by rw [e] at hn; simp at hn
        refine wp_region_held_drew (S := fun Wz => Kept (fun k => k = gd) v6.drew Wz) (by kernel_rfl) (Kept.refl _ _) fun hS => ?_
        generalize v6.drew = W9 at HT9 HTT HKK HB9 HD9 y0 y1 y2 f0 f1 f2 hS ⊢
        refine held_takeTo 55 (i := 0) (v := .pointer (some ⟨M, 9, none⟩)) rfl rfl (by kernel_rfl) (by kernel_rfl) (by kernel_rfl) (fun _ _ _ h => h) rfl hS (fun Wz hW => by go_simp) ?_
        simp only [List.setIfInBounds_toArray, List.set_cons_zero, List.set_cons_succ]
        refine held_takeTo 56 (i := 1) (v := .slice (some ⟨gd, 0, none⟩) x.o.gone.length y.gc) rfl rfl (by kernel_rfl) (by kernel_rfl) (by kernel_rfl) (fun _ _ _ h => h) rfl hS (fun Wz hW => by (have h0 := ((HB9.out.kept hW (Ne.symm n1)).cell 9).trans HC9'; go_simp)) ?_
        simp only [List.setIfInBounds_toArray, List.set_cons_zero, List.set_cons_succ]
        refine held_takeTo 57 (i := 2) (v := .int .i64 j) rfl rfl (by kernel_rfl) (by kernel_rfl) (by kernel_rfl) (fun _ _ _ h => h) rfl hS (fun Wz hW => by go_simp) ?_
        simp only [List.setIfInBounds_toArray, List.set_cons_zero, List.set_cons_succ]
        refine held_takeTo 58 (i := 3) (v := .pointer (some ⟨M, 9, none⟩)) rfl rfl (by kernel_rfl) (by kernel_rfl) (by kernel_rfl) (fun _ _ _ h => h) rfl hS (fun Wz hW => by go_simp) ?_
        simp only [List.setIfInBounds_toArray, List.set_cons_zero, List.set_cons_succ]
        refine held_takeTo 59 (i := 4) (v := .slice (some ⟨gd, 0, none⟩) x.o.gone.length y.gc) rfl rfl (by kernel_rfl) (by kernel_rfl) (by kernel_rfl) (fun _ _ _ h => h) rfl hS (fun Wz hW => by (have h0 := ((HB9.out.kept hW (Ne.symm n1)).cell 9).trans HC9'; go_simp)) ?_
        simp only [List.setIfInBounds_toArray, List.set_cons_zero, List.set_cons_succ]
        refine held_takeTo 60 (i := 5) (v := .int .i64 x.o.gone.length) rfl rfl (by kernel_rfl) (by kernel_rfl) (by kernel_rfl) (fun _ _ _ h => h) rfl hS (fun Wz hW => by go_simp) ?_
        simp only [List.setIfInBounds_toArray, List.set_cons_zero, List.set_cons_succ]
        refine held_takeTo 61 (i := 6) (v := .int .i64 (j % x.o.gone.length : Nat)) rfl rfl (by kernel_rfl) (by kernel_rfl) (by kernel_rfl) (fun _ _ _ h => h) rfl hS (fun Wz hW => by (go_simp; exact Int.tmod_eq_emod_of_nonneg (by omega))) ?_
        simp only [List.setIfInBounds_toArray, List.set_cons_zero, List.set_cons_succ]
        refine held_takeTo 62 (i := 7) (v := .agg (#[.int .i64 g.id.time, .int .i64 g.id.site, .int .i64 g.count])) rfl rfl (by kernel_rfl) (by kernel_rfl) (by kernel_rfl) (fun _ _ _ h => h) rfl hS (fun Wz hW => by (have e0 : Wz.cell? ⟨w.heap.size + 2, 0, none⟩ = some (.int .i64 g.id.time) := (HD9.out.kept hW (Ne.symm n2)).cell 0; have e1 : Wz.cell? ⟨w.heap.size + 2, 1, none⟩ = some (.int .i64 g.id.site) := (HD9.out.kept hW (Ne.symm n2)).cell 1; have e2 : Wz.cell? ⟨w.heap.size + 2, 2, none⟩ = some (.int .i64 g.count) := (HD9.out.kept hW (Ne.symm n2)).cell 2; go_simp)) ?_
        simp only [List.setIfInBounds_toArray, List.set_cons_zero, List.set_cons_succ]
        refine held_one (i := 8) (by kernel_rfl) rfl fun K hK => ?_
        go_wp2_with (fail)
        refine hK.out _ _ hS fun _ => ?_
        clear hK K
        refine held_one (i := 9) (by kernel_rfl) rfl fun K hK => ?_
        go_wp2_with (fail)
        refine hK.out _ _ HKK.out fun _ => ?_
        clear hK K
        refine wpAnyH_done (by kernel_rfl) ?_ _
        go_wp2_with (fail)
        go_meet
        case rel => exact ⟨_, _, HTT.out⟩
      · have h0 : x.o.gone.length = 0 := by omega
        go_wp2
        go_meet
        case rel => exact ⟨_, _, HT5.out⟩
    case rest =>
    obtain ⟨dl2, gl2, hT⟩ := hcut
    have HT7 := Lib.hid (hT.fresh (Kept.refl (fun _ => False) wc).drew)
    have HYS2 := Lib.hid (hT.small HSM.out)
    have HCC := Lib.hid (hT.cells HEQ.out HYC.out)
    obtain ⟨z, hz⟩ : ∃ z, turnedL x y dl2 gl2 = z := ⟨_, rfl⟩
    have HAT := Lib.hid (fun W hk => show z.At W by rw [← hz]; exact (HT7.out.fresh (W' := W) hk).lop)
    rw [hz] at HYS2 HCC
    have HLY := Lib.hid (fun W h1 => OpLast_any z W h1 HYS2.out)
    have HCY := Lib.hid (fun W h1 => Check_lop z W h1 HYS2.out)
    have HRC := Lib.hid (fun W h1 => RCheck_lop z W h1 HYS2.out)
    have HRL := Lib.hid (fun W h1 => RLast_any z W h1 HYS2.out)
    rw [HCC.out] at HLY HCY HRC HRL
    clear hT hz HT5 x9
    generalize opE z.o = oe at *
    generalize lastO z.o = ol at *
    go_upto_region 12 with (fail)
    refine wp_region_held_drew (S := fun Wz => Kept (fun _ => False) wc.drew Wz) (by kernel_rfl) (Kept.refl _ _) fun hS => ?_
    generalize wc.drew = W at HT7 HAT hS ⊢
    refine held_takeTo 64 (i := 0) (v := .agg ys) rfl rfl (by kernel_rfl) (by kernel_rfl) (by kernel_rfl) (fun _ _ _ h => h) rfl hS (fun Wz hW => run_load_op _ _ rfl M rfl _ ys HZY.out ((HT7.out.fresh hW).b)) ?_
    simp only [List.setIfInBounds_toArray, List.set_cons_zero, List.set_cons_succ]
    refine held_takeTo 66 (i := 2) (v := .agg ys) rfl rfl (by kernel_rfl) (by kernel_rfl) (by kernel_rfl) (fun _ _ _ h => h) rfl hS (fun Wz hW => run_load_op _ _ rfl M rfl _ ys HZY.out ((HT7.out.fresh hW).b)) ?_
    simp only [List.setIfInBounds_toArray, List.set_cons_zero, List.set_cons_succ]
    refine held_one (i := 1) (by kernel_rfl) rfl fun K hK => ?_
    go_wp2_with (fail)
    refine (HCY.out W (HAT.out _ hS)).mono ?_
    unfold IntPost
    rintro r v11 ⟨rfl, hk⟩
    have hS11 := hS.trans hk fun _ _ e => e
    clear hk
    go_wp2_with (fail)
    refine hK.out _ _ hS11 fun _ => ?_
    clear hK K
    refine held_one (i := 3) (by kernel_rfl) rfl fun K hK => ?_
    go_wp2_with (fail)
    refine (HRC.out v11 (HAT.out _ hS11)).mono ?_
    unfold IntPost
    rintro r v12 ⟨rfl, hk⟩
    have hS12 := hS11.trans hk fun _ _ e => e
    clear hk
    go_wp2_with (fail)
    refine hK.out _ _ hS12 fun _ => ?_
    clear hK K
    refine held_one (i := 4) (by kernel_rfl) rfl fun K hK => ?_
    go_wp2_with (fail)
    refine hK.out _ _ hS12 fun _ => ?_
    clear hK K
    refine held_one (i := 5) (by kernel_rfl) rfl fun K hK => ?_
    go_wp2_with (fail)
    refine hK.out _ _ hS12 fun _ => ?_
    clear hK K
    refine held_takeG 70 (i := 6) (v := .agg ys) rfl rfl (by kernel_rfl) (by kernel_rfl) (by kernel_rfl) (fun _ _ _ h => h) (by rfl) hS12 (fun Wz hW => run_load_op _ _ rfl M rfl _ ys HZY.out ((HT7.out.fresh hW).b)) ?_
    simp only [List.setIfInBounds_toArray, List.set_cons_zero, List.set_cons_succ]
    refine held_takeG 72 (i := 8) (v := .agg ys) rfl rfl (by kernel_rfl) (by kernel_rfl) (by kernel_rfl) (fun _ _ _ h => h) (by rfl) hS12 (fun Wz hW => run_load_op _ _ rfl M rfl _ ys HZY.out ((HT7.out.fresh hW).b)) ?_
    simp only [List.setIfInBounds_toArray, List.set_cons_zero, List.set_cons_succ]
    refine held_one (i := 7) (by kernel_rfl) rfl fun K hK => ?_
    go_wp2_with (fail)
    refine (HLY.out v12 (HAT.out _ hS12)).mono ?_
    unfold IntPost
    rintro r v13 ⟨rfl, hk⟩
    have hS13 := hS12.trans hk fun _ _ e => e
    clear hk
    go_wp2_with (fail)
    refine hK.out _ _ hS13 fun _ => ?_
    clear hK K
    refine held_one (i := 9) (by kernel_rfl) rfl fun K hK => ?_
    go_wp2_with (fail)
    refine (HRL.out v13 (HAT.out _ hS13)).mono ?_
    unfold IntPost
    rintro r v14 ⟨rfl, hk⟩
    have hS14 := hS13.trans hk fun _ _ e => e
    clear hk
    go_wp2_with (fail)
    refine hK.out _ _ hS14 fun _ => ?_
    clear hK K
    refine held_one (i := 10) (by kernel_rfl) rfl fun K hK => ?_
    go_wp2_with (fail)
    refine hK.out _ _ hS14 fun _ => ?_
    clear hK K
    refine held_one (i := 11) (by kernel_rfl) rfl fun K hK => ?_
    go_wp2_with (fail)
    refine hK.out _ _ hS14 fun _ => ?_
    clear hK K
    refine held_one (i := 12) (by kernel_rfl) rfl fun K hK => ?_
    go_wp2_with (fail)
    refine hK.out _ _ hS14 fun _ => ?_
    clear hK K
    refine held_one (i := 13) (by kernel_rfl) rfl fun K hK => ?_
    go_wp2_with (fail)
    refine (Known8_any v14).mono ?_
    rintro r v15 ⟨rfl, hk⟩
    have hS15 := hS14.trans hk fun _ _ e => e
    clear hk
    go_wp2_with (fail)
    refine hK.out _ _ hS15 fun _ => ?_
    clear hK K
    refine held_one (i := 14) (by kernel_rfl) rfl fun K hK => ?_
    go_wp2_with (fail)
    refine hK.out _ _ hS15 fun _ => ?_
    clear hK K
    refine held_one (i := 15) (by kernel_rfl) rfl fun K hK => ?_
    go_wp2_with (fail)
    refine hK.out _ _ hS15 fun _ => ?_
    clear hK K
    refine wpAnyH_done (by kernel_rfl) ?_ _
    go_wp2_with (fail)
    go_ret
    exact ⟨rfl, (HT7.out.fresh hS15).k⟩
end Go.Proofs.Ytnlklhlnnoihiaa

namespace Go.Proofs.Ytnlklhlnnoihiaa
open Go.ChangeShapes Go.WideShapes Go.ChangeAt Go.RowKit

theorem own : ownKnob Try.prog.godebug = none := by kernel_rfl
theorem laidOut : laidOutB Try.prog = true := by kernel_rfl

section
variable {H : Type} {enc : TypeId × Value → H} {P : Program}
theorem trodAll_below (hl : laidOutB P = true) {W W' : World} (hb : Below W.heap.size W W') : ∀ (ts : List TypeId) (vs : List Value) (ds : List (DataW H)) (ps : List MemPlace),
    (∀ t ∈ ts, P.readableRec t = true ∧ t < P.types.size) → DataW.TrodAll enc P W 0 (fun _ => true) true ts vs ds ps → (∀ x ∈ ps, x.block < W.heap.size) →
    DataW.TrodAll enc P W' 0 (fun b => decide (b < W.heap.size)) true ts vs ds ps
  | [], vs, ds, ps, _, h, _ => by cases vs <;> cases ds <;> simp_all [DataW.TrodAll]
  | t :: ts, vs, ds, ps, hall, h, hlt => by
    obtain ⟨v, vs', d, ds', p, q, rfl, rfl, rfl, h0, h1⟩ := trodAll_cons h
    have ht := hall t (by simp)
    exact trodAll_cons_mk (Below.trod hl ht.1 ht.2 h0 hb fun x hx => hlt x (by simp [hx])) (trodAll_below hl hb ts vs' ds' q (fun t ht => hall t (by simp [ht])) h1 fun x hx => hlt x (by simp [hx]))

theorem law_post {f : Func} {s : ChangeSpec} {W W' : World} {args : Array Value} {ds gs : List (DataW H)} {before : List MemPlace} {tb : TypeId}
    (hW : DataW.Whole enc P f.params.toList s.vars false W args.toList ds gs before) (hvars : s.vars = []) (hl : laidOutB P = true) (hall : f.params.toList.all (fun t => P.readableRec t && decide (t < P.types.size)) = true)
    (hrt : f.resultTypes = #[tb]) (htb : P.underlying tb = some .bool) (hsp : s.fn H ds = { results := [.lit (.bool true)], args := ds }) (hb : Below W.heap.size W W') : s.post enc P f false true false false W args (.bool true) W' := by
  have hlt : ∀ p ∈ before, p.block < W.heap.size := fun p hp => hW.lt p hp
  have hW' := hW
  obtain ⟨p, q, hA, hV, rfl, _, _⟩ := hW
  rw [hvars] at hV
  obtain ⟨rfl, rfl⟩ := trodVars_none hV
  have hall' : ∀ t ∈ f.params.toList, P.readableRec t = true ∧ t < P.types.size := fun t ht => by
    have := List.all_eq_true.1 hall t ht
    simpa using this
  refine ⟨ds, [], p ++ [], [], p, [], hW', ?_, ?_, ?_, hb.frame _, fun h => by cases h⟩
  · rw [List.append_nil, hsp, hrt]
    exact trodAll_cons_mk (shut_bool htb true) trodAll_mk0
  · rw [List.append_nil, hsp]
    exact trodAll_below hl hb _ _ _ _ hall' hA fun x hx => hlt x (by simp [hx])
  · rw [List.append_nil, hsp, hvars]
    rfl
end
end Go.Proofs.Ytnlklhlnnoihiaa

namespace Go.Proofs.Ytnlklhlnnoihiaa.opChecks
open Go.ChangeShapes Go.WideShapes Go.ChangeAt Go.RowKit
open Go.ChangeMaps (open_string)

set_option maxRecDepth 100000 in
theorem lifted (os : Os) (started : os.Started) (H : Type) (enc : TypeId × Value → H) :
    ReturnsInHanded {} Try.checked os 3 .any (Rows.opChecksSpec.pre6 enc Try.prog Try.f3 Rows.opChecksRow.domain false) (Rows.opChecksSpec.post enc Try.prog Try.f3 false true false false) := by
  refine returnsInHanded_of_change (C := Try.checked) own started (by kernel_rfl) Try.func3
    (ChangeSpec.witness6 (enc := enc) (C := Try.checked) false ⟨#[], #[.agg #[.int .i64 0, .int .i64 0, .slice none 0 0, .int .i64 0, .int .i64 0, .int .i64 0, .int .i64 0, .int .i64 0, .string ⟨#[]⟩, .slice none 0 0, .int .i64 0], .agg #[.int .i64 0, .int .i64 0], .agg #[.int .i64 0, .int .i64 0, .int .i64 0], .int .i64 0], []⟩ 8 (by kernel_rfl) (by kernel_rfl) (by kernel_rfl) (by kernel_rfl)) ?_
  intro W base args ds gs before hval0 hW _ _
  have hval : ∀ (j : Nat) t v, Try.f3.params[j]? = some t → args[j]? = some v → Value.okWide Try.prog W .any base t v := hval0
  have hW' := hW
  obtain ⟨p, q, hA0, hV, rfl, hfz, hnd⟩ := hW
  have hA : DataW.TrodAll enc Try.prog W 0 (fun _ => true) true Try.f3.params.toList args.toList ds p := hA0
  rw [Try.params3] at hA hval
  obtain ⟨v0, vs0, d0, ds0, p0, q0, hargs, rfl, rfl, h0, r0⟩ := trodAll_cons hA
  obtain ⟨v1, vs1, d1, ds1, p1, q1, rfl, rfl, rfl, h1, r1⟩ := trodAll_cons r0
  obtain ⟨v2, vs2, d2, ds2, p2, q2, rfl, rfl, rfl, h2, r2⟩ := trodAll_cons r1
  obtain ⟨v3, vs3, d3, ds3, p3, q3, rfl, rfl, rfl, h3, r3⟩ := trodAll_cons r2
  obtain ⟨rfl, rfl, rfl⟩ := trodAll_nil r3
  obtain rfl : args = #[v0, v1, v2, v3] := by cases args; simp_all
  obtain ⟨x, rfl, ha0⟩ := open_op (hval 0 30 v0 rfl rfl) h0
  obtain ⟨d, rfl⟩ := open_dot (hval 1 23 v1 rfl rfl) h1
  obtain ⟨g, rfl, hi2⟩ := open_run (hval 2 32 v2 rfl rfl) h2
  obtain ⟨i, rfl, _, _, w3⟩ := open_int Try.underlying3 (hval 3 3 v3 rfl rfl) h3
  refine (Checks_walk x d g i W ha0.at_ ⟨ha0.nd, ha0.ng⟩ ha0.counts hi2 (wf_inI w3)).mono fun e W' ⟨he, hk⟩ => ?_
  subst he
  exact ⟨_, rfl, law_post hW' rfl laidOut (by kernel_rfl) rfl Try.underlying4 rfl (hk.below (Nat.le_refl _) fun _ h => h.elim)⟩

theorem proved : Rows.OpChecksSaid :=
  OpenClaim.holds_of_wide 3 Try.f3 rfl rfl rfl rfl rfl rfl rfl ⟨rfl, rfl, rfl, rfl, rfl⟩ rfl rfl rfl rfl rfl (by kernel_rfl) Try.func3 (by kernel_rfl)
    (of_decide_eq_true (by kernel_rfl)) (by unfold Func.isWrapper; first | (rw [if_pos (by decide +kernel)]; kernel_rfl) | (rw [if_neg (by decide +kernel)]; exact ⟨rfl, rfl⟩))
    (fun os started H enc _ => lifted os started H enc)
#print axioms proved
end Go.Proofs.Ytnlklhlnnoihiaa.opChecks
