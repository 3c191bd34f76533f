/- The walk of FrontNothing: it is true. Conditions: the script lies in memory. -/
import Derived.Test.YthlejmpeigfdgaaFNil
namespace Go.Proofs.Ythlejmpeigfdgaa
open Go Go.RowKit

def stfZ : Array Value := #[.int .i64 0, .int .i64 0, .slice none 0 0, .slice none 0 0]
set_option maxRecDepth 100000 in
set_option maxHeartbeats 6400000 in
theorem Nothing_walk (A : Option Addr) (c : Nat) (l : List Stf) (w : World) (h : ScfAt w A l) (hl : l.length ≤ 4611686018427387904) :
    Calls Try.prog 5 #[.slice A l.length c] w (KnownPost w) := by
  have HSC := Lib.hid h
  clear h
  go_enter Try.func5, Try.ntmps5
  go_wp2_with (fail)
  refine (Much14_any A l c w HSC.out.steps hl).mono ?_
  rintro r w1 ⟨rfl, hk⟩
  have HA1 := Lib.hid hk
  clear hk
  obtain ⟨bm, hbm⟩ : ∃ bm, muchF l = bm := ⟨_, rfl⟩
  rw [hbm]
  have HBM := Lib.hid hbm
  clear hbm
  cases bm with
  | true =>
    as_aux_lemma =>
    go_wp2_with (fail)
    refine (Known14_any w1).mono ?_
    rintro r w2 ⟨rfl, hk⟩
    have HK := Lib.hid (HA1.out.trans hk fun _ _ e => e)
    clear hk
    go_wp2_with (fail)
    go_ret
    exact ⟨rfl, HK.out⟩
  | false =>
  clear HBM
  go_wp2_with (fail)
  go_loopw [4] (fun i wr => ∃ k : Nat, i = .int .i64 k ∧ k ≤ l.length ∧ Kept (fun _ => False) w wr) (fun i _ => l.length - (intOf i).toNat)
  case atStart => exact ⟨0, rfl, Nat.zero_le _, HA1.out⟩
  case round =>
    obtain ⟨k, rfl, hk, hkk⟩ := hrel
    have HK := Lib.hid hkk
    clear hkk
    by_cases hlt : k < l.length
    · obtain ⟨ad, rfl, x0, x1⟩ := HSC.out.steps.fresh HK.out k hlt
      obtain ⟨x, hx⟩ : ∃ x, l[k] = x := ⟨_, rfl⟩
      rw [hx] at x0 x1
      have HX0 := Lib.hid x0
      have HX1 := Lib.hid x1
      clear x0 x1 hx
      have hka : Kept (fun _ => False) wr (wr.alloc (.cells stfZ 34)) := (Kept.refl _ _).alloc _
      have HKA := Lib.hid hka
      have HN := Lib.hid (Box.new wr 34 stfZ)
      clear hka
      have hi0 : (0 : Int) ≤ (k : Int) := by omega
      have hin : (k : Int) < (l.length : Int) := by omega
      go_wp2_with (first | refine load_stf rfl _ rfl _ rfl x HX0.out HX1.out ?_ | (refine wpList_store_box rfl 34 (.tmp 5) _ rfl wr.heap.size x.cs rfl rfl 34 stfZ HN.out (size_stf.trans rfl) rfl x.cs_one ?_; intro w2 HX hk2; refine Hid.out ?_))
      refine Lib.hid ?_
      have hkf : Kept (fun _ => False) wr w2 := HKA.out.trans hk2 fun k hk e => by omega
      have HK2 := Lib.hid (HK.out.trans hkf fun _ _ e => e)
      clear hkf hk2 HKA HN HX0 HX1
      obtain ⟨X, hX⟩ : ∃ X, wr.heap.size = X := ⟨_, rfl⟩
      rw [hX] at HX ⊢
      clear hX
      have x2 : w2.cell? ⟨X, 2, none⟩ = some (.slice x.vA x.v.length x.vc) := (HX.out.cell 2).trans rfl
      go_wp2_with (fail)
      refine (Settle_nil w2 _ _ _).mono ?_
      rintro r w3 ⟨⟨u3, rfl⟩, hk⟩
      have HX3 := Lib.hid (HX.out.kept hk id)
      have HK3 := Lib.hid (HK2.out.trans hk fun _ _ e => e)
      clear hk x2 HX HK2
      have x1 : w3.cell? ⟨X, 1, none⟩ = some (.int .i64 x.site) := (HX3.out.cell 1).trans rfl
      go_wp2_with (fail)
      refine (Row_nil w3 _).mono ?_
      rintro r w4 ⟨A1, c1, rfl, hk⟩
      have HX4 := Lib.hid (HX3.out.kept hk id)
      have HK4 := Lib.hid (HK3.out.trans hk fun _ _ e => e)
      clear hk x1 HX3 HK3
      go_upto_region 10 with (fail)
      refine wp_region_held_drew (S := fun Wz => Kept (fun _ => False) w4 Wz ∧ Box Wz X 34 x.cs) (by kernel_rfl) ⟨(Kept.refl _ w4).drew, HX4.out⟩ fun hS => ?_
      generalize w4.drew = W at hS ⊢
      refine held_takeTo 32 (i := 0) (v := .pointer none) rfl rfl (by kernel_rfl) (by kernel_rfl) (by kernel_rfl) (fun _ _ _ h => h) rfl hS (fun Wz hW => by go_simp) ?_
      simp only [List.setIfInBounds_toArray, List.set_cons_zero, List.set_cons_succ]
      refine held_takeTo 33 (i := 1) (v := .pointer (some ⟨X, 1, none⟩)) rfl rfl (by kernel_rfl) (by kernel_rfl) (by kernel_rfl) (fun _ _ _ h => h) rfl hS (fun Wz hW => by go_simp) ?_
      simp only [List.setIfInBounds_toArray, List.set_cons_zero, List.set_cons_succ]
      refine held_takeTo 34 (i := 2) (v := .int .i64 x.site) rfl rfl (by kernel_rfl) (by kernel_rfl) (by kernel_rfl) (fun _ _ _ h => h) rfl hS (fun Wz hW => by (have hc : Wz.cell? ⟨X, 1, none⟩ = some (.int .i64 x.site) := (hW.2.cell 1).trans rfl; go_simp)) ?_
      simp only [List.setIfInBounds_toArray, List.set_cons_zero, List.set_cons_succ]
      refine held_takeTo 35 (i := 3) (v := .pointer (some ⟨X, 2, none⟩)) rfl rfl (by kernel_rfl) (by kernel_rfl) (by kernel_rfl) (fun _ _ _ h => h) rfl hS (fun Wz hW => by go_simp) ?_
      simp only [List.setIfInBounds_toArray, List.set_cons_zero, List.set_cons_succ]
      refine held_takeTo 36 (i := 4) (v := .slice x.vA x.v.length x.vc) rfl rfl (by kernel_rfl) (by kernel_rfl) (by kernel_rfl) (fun _ _ _ h => h) rfl hS (fun Wz hW => by (have hc : Wz.cell? ⟨X, 2, none⟩ = some (.slice x.vA x.v.length x.vc) := (hW.2.cell 2).trans rfl; go_simp)) ?_
      simp only [List.setIfInBounds_toArray, List.set_cons_zero, List.set_cons_succ]
      refine held_one (i := 5) (by kernel_rfl) rfl fun K hK => ?_
      go_wp2_with (fail)
      refine (Hear_nil W _ _ _ _).mono ?_
      rintro r W1 ⟨rfl, hk⟩
      have hS1 : Kept (fun _ => False) w4 W1 ∧ Box W1 X 34 x.cs := ⟨hS.1.trans hk fun _ _ e => e, hS.2.kept hk id⟩
      clear hk hS
      go_wp2_with (fail)
      refine hK.out _ _ hS1 fun _ => ?_
      clear hK K
      refine held_takeTo 38 (i := 6) (v := .bool false) rfl rfl (by kernel_rfl) (by kernel_rfl) (by kernel_rfl) (fun _ _ _ h => h) rfl hS1 (fun Wz hW => by go_simp) ?_
      simp only [List.setIfInBounds_toArray, List.set_cons_zero, List.set_cons_succ]
      refine held_takeTo 39 (i := 7) (v := .bool false) rfl rfl (by kernel_rfl) (by kernel_rfl) (by kernel_rfl) (fun _ _ _ h => h) rfl hS1 (fun Wz hW => by go_simp) ?_
      simp only [List.setIfInBounds_toArray, List.set_cons_zero, List.set_cons_succ]
      refine held_takeG 40 (i := 8) (v := .bool false) rfl rfl (by kernel_rfl) (by kernel_rfl) (by kernel_rfl) (fun _ _ _ h => h) (by rfl) hS1 (fun Wz hW => by go_simp) ?_
      simp only [List.setIfInBounds_toArray, List.set_cons_zero, List.set_cons_succ]
      refine held_takeTo 41 (i := 9) (v := .bool false) rfl rfl (by kernel_rfl) (by kernel_rfl) (by kernel_rfl) (fun _ _ _ h => h) rfl hS1 (fun Wz hW => by go_simp) ?_
      simp only [List.setIfInBounds_toArray, List.set_cons_zero, List.set_cons_succ]
      refine held_takeTo 42 (i := 10) (v := .bool false) rfl rfl (by kernel_rfl) (by kernel_rfl) (by kernel_rfl) (fun _ _ _ h => h) rfl hS1 (fun Wz hW => by go_simp) ?_
      simp only [List.setIfInBounds_toArray, List.set_cons_zero, List.set_cons_succ]
      refine held_takeG 43 (i := 11) (v := .slice A1 0 c1) rfl rfl (by kernel_rfl) (by kernel_rfl) (by kernel_rfl) (fun _ _ _ h => h) (by rfl) hS1 (fun Wz hW => by go_simp) ?_
      simp only [List.setIfInBounds_toArray, List.set_cons_zero, List.set_cons_succ]
      refine held_takeG 44 (i := 12) (v := .int .i64 0) rfl rfl (by kernel_rfl) (by kernel_rfl) (by kernel_rfl) (fun _ _ _ h => h) (by rfl) hS1 (fun Wz hW => by go_simp) ?_
      simp only [List.setIfInBounds_toArray, List.set_cons_zero, List.set_cons_succ]
      refine held_takeG 45 (i := 13) (v := .pointer none) rfl rfl (by kernel_rfl) (by kernel_rfl) (by kernel_rfl) (fun _ _ _ h => h) (by rfl) hS1 (fun Wz hW => by go_simp) ?_
      simp only [List.setIfInBounds_toArray, List.set_cons_zero, List.set_cons_succ]
      refine held_takeG 46 (i := 14) (v := .pointer (some ⟨X, 1, none⟩)) rfl rfl (by kernel_rfl) (by kernel_rfl) (by kernel_rfl) (fun _ _ _ h => h) (by rfl) hS1 (fun Wz hW => by go_simp) ?_
      simp only [List.setIfInBounds_toArray, List.set_cons_zero, List.set_cons_succ]
      refine held_takeG 47 (i := 15) (v := .int .i64 x.site) rfl rfl (by kernel_rfl) (by kernel_rfl) (by kernel_rfl) (fun _ _ _ h => h) (by rfl) hS1 (fun Wz hW => by (have hc : Wz.cell? ⟨X, 1, none⟩ = some (.int .i64 x.site) := (hW.2.cell 1).trans rfl; go_simp)) ?_
      simp only [List.setIfInBounds_toArray, List.set_cons_zero, List.set_cons_succ]
      refine held_takeG 51 (i := 19) (v := .pointer none) rfl rfl (by kernel_rfl) (by kernel_rfl) (by kernel_rfl) (fun _ _ _ h => h) (by rfl) hS1 (fun Wz hW => by go_simp) ?_
      simp only [List.setIfInBounds_toArray, List.set_cons_zero, List.set_cons_succ]
      refine held_takeG 52 (i := 20) (v := .pointer (some ⟨X, 3, none⟩)) rfl rfl (by kernel_rfl) (by kernel_rfl) (by kernel_rfl) (fun _ _ _ h => h) (by rfl) hS1 (fun Wz hW => by go_simp) ?_
      simp only [List.setIfInBounds_toArray, List.set_cons_zero, List.set_cons_succ]
      refine held_takeG 53 (i := 21) (v := .slice x.mA x.ms.length x.mc) rfl rfl (by kernel_rfl) (by kernel_rfl) (by kernel_rfl) (fun _ _ _ h => h) (by rfl) hS1 (fun Wz hW => by (have hc : Wz.cell? ⟨X, 3, none⟩ = some (.slice x.mA x.ms.length x.mc) := (hW.2.cell 3).trans rfl; go_simp)) ?_
      simp only [List.setIfInBounds_toArray, List.set_cons_zero, List.set_cons_succ]
      refine held_takeG 54 (i := 22) (v := .pointer (some ⟨X, 1, none⟩)) rfl rfl (by kernel_rfl) (by kernel_rfl) (by kernel_rfl) (fun _ _ _ h => h) (by rfl) hS1 (fun Wz hW => by go_simp) ?_
      simp only [List.setIfInBounds_toArray, List.set_cons_zero, List.set_cons_succ]
      refine held_takeG 55 (i := 23) (v := .int .i64 x.site) rfl rfl (by kernel_rfl) (by kernel_rfl) (by kernel_rfl) (fun _ _ _ h => h) (by rfl) hS1 (fun Wz hW => by (have hc : Wz.cell? ⟨X, 1, none⟩ = some (.int .i64 x.site) := (hW.2.cell 1).trans rfl; go_simp)) ?_
      simp only [List.setIfInBounds_toArray, List.set_cons_zero, List.set_cons_succ]
      refine held_takeG 56 (i := 24) (v := .pointer (some ⟨X, 2, none⟩)) rfl rfl (by kernel_rfl) (by kernel_rfl) (by kernel_rfl) (fun _ _ _ h => h) (by rfl) hS1 (fun Wz hW => by go_simp) ?_
      simp only [List.setIfInBounds_toArray, List.set_cons_zero, List.set_cons_succ]
      refine held_takeG 57 (i := 25) (v := .slice x.vA x.v.length x.vc) rfl rfl (by kernel_rfl) (by kernel_rfl) (by kernel_rfl) (fun _ _ _ h => h) (by rfl) hS1 (fun Wz hW => by (have hc : Wz.cell? ⟨X, 2, none⟩ = some (.slice x.vA x.v.length x.vc) := (hW.2.cell 2).trans rfl; go_simp)) ?_
      simp only [List.setIfInBounds_toArray, List.set_cons_zero, List.set_cons_succ]
      refine held_one (i := 16) (by kernel_rfl) rfl fun K hK => ?_
      go_wp2_with (fail)
      refine (Usable_nil W1 _).mono ?_
      rintro r W2 ⟨A2, c2, rfl, hk⟩
      have hS2 : Kept (fun _ => False) w4 W2 ∧ Box W2 X 34 x.cs := ⟨hS1.1.trans hk fun _ _ e => e, hS1.2.kept hk id⟩
      clear hk hS1
      go_wp2_with (fail)
      refine hK.out _ _ hS2 fun _ => ?_
      clear hK K
      refine held_takeG 49 (i := 17) (v := .int .i64 0) rfl rfl (by kernel_rfl) (by kernel_rfl) (by kernel_rfl) (fun _ _ _ h => h) (by rfl) hS2 (fun Wz hW => by go_simp) ?_
      simp only [List.setIfInBounds_toArray, List.set_cons_zero, List.set_cons_succ]
      refine held_takeG 50 (i := 18) (v := .int .i64 0) rfl rfl (by kernel_rfl) (by kernel_rfl) (by kernel_rfl) (fun _ _ _ h => h) (by rfl) hS2 (fun Wz hW => by (go_simp; exact IntWalk.i64_in 0 ⟨by decide, by decide⟩)) ?_
      simp only [List.setIfInBounds_toArray, List.set_cons_zero, List.set_cons_succ]
      refine held_one (i := 26) (by kernel_rfl) rfl fun K hK => ?_
      go_wp2_with (fail)
      refine (Frontier_nil W2 _ _ _ _ _ _ _).mono ?_
      rintro r W3 ⟨A3, c3, rfl, hk⟩
      have hS3 : Kept (fun _ => False) w4 W3 ∧ Box W3 X 34 x.cs := ⟨hS2.1.trans hk fun _ _ e => e, hS2.2.kept hk id⟩
      clear hk hS2
      go_wp2_with (fail)
      refine hK.out _ _ hS3 fun _ => ?_
      clear hK K
      refine held_takeG 59 (i := 27) (v := .int .i64 0) rfl rfl (by kernel_rfl) (by kernel_rfl) (by kernel_rfl) (fun _ _ _ h => h) (by rfl) hS3 (fun Wz hW => by go_simp) ?_
      simp only [List.setIfInBounds_toArray, List.set_cons_zero, List.set_cons_succ]
      refine held_takeG 60 (i := 28) (v := .int .i64 0) rfl rfl (by kernel_rfl) (by kernel_rfl) (by kernel_rfl) (fun _ _ _ h => h) (by rfl) hS3 (fun Wz hW => by (go_simp; exact IntWalk.i64_in 0 ⟨by decide, by decide⟩)) ?_
      simp only [List.setIfInBounds_toArray, List.set_cons_zero, List.set_cons_succ]
      refine held_takeG 61 (i := 29) (v := .bool false) rfl rfl (by kernel_rfl) (by kernel_rfl) (by kernel_rfl) (fun _ _ _ h => h) (by rfl) hS3 (fun Wz hW => by go_simp) ?_
      simp only [List.setIfInBounds_toArray, List.set_cons_zero, List.set_cons_succ]
      refine held_takeTo 62 (i := 30) (v := .bool false) rfl rfl (by kernel_rfl) (by kernel_rfl) (by kernel_rfl) (fun _ _ _ h => h) rfl hS3 (fun Wz hW => by go_simp) ?_
      simp only [List.setIfInBounds_toArray, List.set_cons_zero, List.set_cons_succ]
      refine wpAnyH_done (by kernel_rfl) ?_ _
      have HKE := Lib.hid (HK4.out.trans hS3.1 fun _ _ e => e)
      clear hS3 HX4 HK4
      go_wp2_with (fail)
      go_roundw
      case rel => exact ⟨k + 1, by go_num, by omega, HKE.out⟩
      case measure => simp [intOf]; omega
    · obtain rfl : k = l.length := by omega
      go_wp2_with (fail)
      refine (Known14_any wr).mono ?_
      rintro r w2 ⟨rfl, hk⟩
      have HKF := Lib.hid (HK.out.trans hk fun _ _ e => e)
      clear hk
      go_wp2_with (fail)
      go_ret
      exact ⟨rfl, HKF.out⟩
end Go.Proofs.Ythlejmpeigfdgaa
