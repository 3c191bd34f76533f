/- The walks of the reference's Covers, Merge, Least. Conditions: the Dots lie in memory as DotsAt says. -/
import Derived.Test.YthlejmpeigfdgaaVLat
namespace Go.Proofs.Ythlejmpeigfdgaa
open Go.RowKit

def TwoAt (w wr : World) (g h : Nat) (r s : List Int) : Prop := Box wr g 79 (rowV r) ∧ Box wr h 79 (rowV s) ∧ Kept (fun _ => False) w wr
theorem TwoAt.set {w wr : World} {g h : Nat} {r s : List Int} (H : TwoAt w wr g h r s) (hg : w.heap.size ≤ g) (hgh : g < h) (k : Nat) (x : Int) : TwoAt w (wr.setCell ⟨g, k, none⟩ (.int .i64 x)) g h (r.set k x) s := by
  refine ⟨?_, H.2.1.far (p := ⟨g, k, none⟩) (by show h ≠ g; omega) _, H.2.2.at k _ (.inr (by omega))⟩
  have := H.1.set k (.int .i64 x)
  rwa [rowV_set] at this
theorem TwoAt.drewN {w wr : World} {g h : Nat} {r s : List Int} (H : TwoAt w wr g h r s) (n : Nat) : TwoAt w (wr.drewN n) g h r s := ⟨H.1, H.2.1, H.2.2.drewN n⟩

set_option maxRecDepth 100000 in
set_option maxHeartbeats 1600000 in
theorem RMerge_any (A B : Option Addr) (l m : List Dt) (c d : Nat) (w : World) (hl : DotsAt w A l) (hm : DotsAt w B m) (hlen : l.length ≤ 4611686018427387904) (hlen' : m.length ≤ 4611686018427387904) :
    Calls Try.prog 44 #[.slice A l.length c, .slice B m.length d] w (FreshDots w (vec (maxR (says l) (says m)))) := by
  have HL := Lib.hid hl
  have HM := Lib.hid hm
  clear hl hm
  go_enter Try.func44, Try.ntmps44
  go_wp2_with (fail)
  refine (Says_any A l c _ HL.out hlen).mono ?_
  rintro e w1 ⟨rfl, hk1⟩
  have HK1 := Lib.hid hk1
  clear hk1
  have HR := Lib.hid (Row.says l)
  have HS := Lib.hid (Row.says m)
  generalize hr : says l = r at HR ⊢
  have hb0 := zero_row w1 79
  have HW := Lib.hid hr
  clear hr
  go_wp2_with (refine wpList_store_box rfl 79 _ _ rfl w1.heap.size (rowV r) rfl rfl 79 (rowV row0) hb0 (size_Row.trans (size_of_row HR.out)) (by rw [rowV_size, rowV_size, HR.out.len]; rfl) (rowV_one _) ?_; intro w2 HB2 hk2; have HK2 := Lib.hid (HK1.out.fresh_set hk2); clear hk2 hb0)
  refine (Says_any B m d _ (HM.out.fresh HK2.out) hlen').mono ?_
  rintro e w3 ⟨rfl, hk3⟩
  have HK3 := Lib.hid (HK2.out.trans hk3 fun _ _ e => e)
  have HB3 := Lib.hid (HB2.out.kept hk3 fun h => h)
  clear hk3
  generalize hs : says m = s at HS ⊢
  have HEQ := Lib.hid (show maxR (says l) (says m) = maxR r s by rw [HW.out, hs])
  clear hs
  have hb0 := zero_row w3 79
  go_wp2_with (refine wpList_store_box rfl 79 _ _ rfl w3.heap.size (rowV s) rfl rfl 79 (rowV row0) hb0 (size_Row.trans (size_of_row HS.out)) (by rw [rowV_size, rowV_size, HS.out.len]; rfl) (rowV_one _) ?_; intro w4 HB4 hk4; have HK4 := Lib.hid (HK3.out.fresh_set hk4); have HB5 := Lib.hid ((HB3.out.alloc _).kept hk4 (by have := HB3.out.lt; omega)); clear hk4 hb0)
  have hg := HK1.out.size
  have hgh := HB3.out.lt
  have HAT := Lib.hid (show TwoAt w w4 w1.heap.size w3.heap.size r s from ⟨HB5.out, HB4.out, HK4.out⟩)
  have HRS := Lib.hid (show zipR max r s 0 = r from zipR_zero max s HR.out.len)
  clear HB5 HB4 HK4 HB3 HK3 HK2 HB2 HK1
  generalize w1.heap.size = g at hg hgh HAT ⊢
  generalize w3.heap.size = h at hgh HAT ⊢
  go_loopw [7] (fun i wr => ∃ k : Nat, i = .int .i64 k ∧ k ≤ 17 ∧ TwoAt w wr g h (zipR max r s k) s) (fun i _ => 17 - (intOf i).toNat)
  case atStart => exact ⟨0, rfl, Nat.zero_le _, by rw [HRS.out]; exact HAT.out⟩
  case round =>
    obtain ⟨k, rfl, hk, hat⟩ := hrel
    have HT := Lib.hid hat
    clear hat
    by_cases hlt : k < 17
    · have c0 : wr.cell? ⟨g, k, none⟩ = some (.int .i64 (rg r k)) := by rw [HT.out.1.cell, rowV_get _ _ (by rw [zipR_len]; omega), zipR_rg _ _ _ _ _ hlt, if_neg (by omega)]
      have c1 : wr.cell? ⟨h, k, none⟩ = some (.int .i64 (rg s k)) := by rw [HT.out.2.1.cell, rowV_get _ _ (by rw [HS.out.len]; omega)]
      have f0 : wr.frozen? ⟨g, k, none⟩ = false := HT.out.1.frozen k
      have HE := Lib.hid (show zipR max r s (k + 1) = (zipR max r s k).set k (max (rg r k) (rg s k)) from zipR_succ max r s k hlt)
      generalize rg r k = x at c0 HE
      generalize rg s k = y at c1 HE
      obtain ⟨z, em, hz⟩ : ∃ z, (if x < y then y else x) = z ∧ max x y = z := ⟨_, rfl, by omega⟩
      have HZ := Lib.hid hz
      clear hz
      go_wp2_with (fail)
      go_region
      all_goals
        go_wp2
        go_roundw
        case rel => exact ⟨k + 1, by go_num, by omega, by rw [HE.out, HZ.out]; exact (HT.out.drewN 1).set hg hgh k _⟩
        case measure => simp [intOf]; omega
    · obtain rfl : k = 17 := by omega
      have hb0 := HT.out.1
      have HRow := Lib.hid (zipR_len max r s 17)
      go_wp2_with (refine wpList_load_box rfl 79 _ rfl g rfl 79 (rowV (zipR max r s 17)) _ hb0 Try.underlying79 rfl (size_Row.trans (by rw [rowV_size, HRow.out])) ?_)
      clear hb0
      refine (Of_any _ _ (HR.out.maxR HS.out)).mono ?_
      rintro e w5 hf
      have HF := Lib.hid (hf.since HT.out.2.2)
      obtain ⟨A', c', rfl, -, -⟩ := hf
      go_wp2
      go_ret
      rw [HEQ.out]
      exact HF.out

set_option maxRecDepth 100000 in
set_option maxHeartbeats 1600000 in
theorem RLeast_any (A B : Option Addr) (l m : List Dt) (c d : Nat) (w : World) (hl : DotsAt w A l) (hm : DotsAt w B m) (hlen : l.length ≤ 4611686018427387904) (hlen' : m.length ≤ 4611686018427387904) :
    Calls Try.prog 45 #[.slice A l.length c, .slice B m.length d] w (FreshDots w (vec (minR (says l) (says m)))) := by
  have HL := Lib.hid hl
  have HM := Lib.hid hm
  clear hl hm
  go_enter Try.func45, Try.ntmps45
  go_wp2_with (fail)
  refine (Says_any A l c _ HL.out hlen).mono ?_
  rintro e w1 ⟨rfl, hk1⟩
  have HK1 := Lib.hid hk1
  clear hk1
  have HR := Lib.hid (Row.says l)
  have HS := Lib.hid (Row.says m)
  generalize hr : says l = r at HR ⊢
  have hb0 := zero_row w1 79
  have HW := Lib.hid hr
  clear hr
  go_wp2_with (refine wpList_store_box rfl 79 _ _ rfl w1.heap.size (rowV r) rfl rfl 79 (rowV row0) hb0 (size_Row.trans (size_of_row HR.out)) (by rw [rowV_size, rowV_size, HR.out.len]; rfl) (rowV_one _) ?_; intro w2 HB2 hk2; have HK2 := Lib.hid (HK1.out.fresh_set hk2); clear hk2 hb0)
  refine (Says_any B m d _ (HM.out.fresh HK2.out) hlen').mono ?_
  rintro e w3 ⟨rfl, hk3⟩
  have HK3 := Lib.hid (HK2.out.trans hk3 fun _ _ e => e)
  have HB3 := Lib.hid (HB2.out.kept hk3 fun h => h)
  clear hk3
  generalize hs : says m = s at HS ⊢
  have HEQ := Lib.hid (show minR (says l) (says m) = minR r s by rw [HW.out, hs])
  clear hs
  have hb0 := zero_row w3 79
  go_wp2_with (refine wpList_store_box rfl 79 _ _ rfl w3.heap.size (rowV s) rfl rfl 79 (rowV row0) hb0 (size_Row.trans (size_of_row HS.out)) (by rw [rowV_size, rowV_size, HS.out.len]; rfl) (rowV_one _) ?_; intro w4 HB4 hk4; have HK4 := Lib.hid (HK3.out.fresh_set hk4); have HB5 := Lib.hid ((HB3.out.alloc _).kept hk4 (by have := HB3.out.lt; omega)); clear hk4 hb0)
  have hg := HK1.out.size
  have hgh := HB3.out.lt
  have HAT := Lib.hid (show TwoAt w w4 w1.heap.size w3.heap.size r s from ⟨HB5.out, HB4.out, HK4.out⟩)
  have HRS := Lib.hid (show zipR min r s 0 = r from zipR_zero min s HR.out.len)
  clear HB5 HB4 HK4 HB3 HK3 HK2 HB2 HK1
  generalize w1.heap.size = g at hg hgh HAT ⊢
  generalize w3.heap.size = h at hgh HAT ⊢
  go_loopw [7] (fun i wr => ∃ k : Nat, i = .int .i64 k ∧ k ≤ 17 ∧ TwoAt w wr g h (zipR min r s k) s) (fun i _ => 17 - (intOf i).toNat)
  case atStart => exact ⟨0, rfl, Nat.zero_le _, by rw [HRS.out]; exact HAT.out⟩
  case round =>
    obtain ⟨k, rfl, hk, hat⟩ := hrel
    have HT := Lib.hid hat
    clear hat
    by_cases hlt : k < 17
    · have c0 : wr.cell? ⟨g, k, none⟩ = some (.int .i64 (rg r k)) := by rw [HT.out.1.cell, rowV_get _ _ (by rw [zipR_len]; omega), zipR_rg _ _ _ _ _ hlt, if_neg (by omega)]
      have c1 : wr.cell? ⟨h, k, none⟩ = some (.int .i64 (rg s k)) := by rw [HT.out.2.1.cell, rowV_get _ _ (by rw [HS.out.len]; omega)]
      have f0 : wr.frozen? ⟨g, k, none⟩ = false := HT.out.1.frozen k
      have HE := Lib.hid (show zipR min r s (k + 1) = (zipR min r s k).set k (min (rg r k) (rg s k)) from zipR_succ min r s k hlt)
      generalize rg r k = x at c0 HE
      generalize rg s k = y at c1 HE
      obtain ⟨z, em, hz⟩ : ∃ z, (if y < x then y else x) = z ∧ min x y = z := ⟨_, rfl, by omega⟩
      have HZ := Lib.hid hz
      clear hz
      go_wp2_with (fail)
      go_region
      all_goals
        go_wp2
        go_roundw
        case rel => exact ⟨k + 1, by go_num, by omega, by rw [HE.out, HZ.out]; exact (HT.out.drewN 1).set hg hgh k _⟩
        case measure => simp [intOf]; omega
    · obtain rfl : k = 17 := by omega
      have hb0 := HT.out.1
      have HRow := Lib.hid (zipR_len min r s 17)
      go_wp2_with (refine wpList_load_box rfl 79 _ rfl g rfl 79 (rowV (zipR min r s 17)) _ hb0 Try.underlying79 rfl (size_Row.trans (by rw [rowV_size, HRow.out])) ?_)
      clear hb0
      refine (Of_any _ _ (HR.out.minR HS.out)).mono ?_
      rintro e w5 hf
      have HF := Lib.hid (hf.since HT.out.2.2)
      obtain ⟨A', c', rfl, -, -⟩ := hf
      go_wp2
      go_ret
      rw [HEQ.out]
      exact HF.out
end Go.Proofs.Ythlejmpeigfdgaa
