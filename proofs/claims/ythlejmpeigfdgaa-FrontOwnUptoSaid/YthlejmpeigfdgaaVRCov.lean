/- The walk of the reference's Covers. Conditions: the Dots lie in memory as DotsAt says. -/
import Derived.Test.YthlejmpeigfdgaaVRLat
namespace Go.Proofs.Ythlejmpeigfdgaa
open Go.RowKit

set_option maxRecDepth 100000 in
set_option maxHeartbeats 1600000 in
theorem RCovers_any (A B : Option Addr) (l m : List Dt) (c d : Nat) (w : World) (hl : DotsAt w A l) (hm : DotsAt w B m) (hlen : l.length ≤ 4611686018427387904) (hlen' : m.length ≤ 4611686018427387904) :
    Calls Try.prog 22 #[.slice A l.length c, .slice B m.length d] w (BoolPost w (coversR (says l) (says m))) := by
  have HL := Lib.hid hl
  have HM := Lib.hid hm
  clear hl hm
  go_enter Try.func22, Try.ntmps22
  go_wp2_with (fail)
  refine (Says_any A l c _ HL.out hlen).mono ?_
  rintro e w1 ⟨rfl, hk1⟩
  have HK1 := Lib.hid hk1
  clear hk1
  have HR := Lib.hid (Row.says l)
  have HS := Lib.hid (Row.says m)
  generalize hr : says l = r at HR ⊢
  have hb0 := zero_row w1 79
  have HW := Lib.hid hr
  clear hr
  go_wp2_with (refine wpList_store_box rfl 79 _ _ rfl w1.heap.size (rowV r) rfl rfl 79 (rowV row0) hb0 (size_Row.trans (size_of_row HR.out)) (by rw [rowV_size, rowV_size, HR.out.len]; rfl) (rowV_one _) ?_; intro w2 HB2 hk2; have HK2 := Lib.hid (HK1.out.fresh_set hk2); clear hk2 hb0)
  refine (Says_any B m d _ (HM.out.fresh HK2.out) hlen').mono ?_
  rintro e w3 ⟨rfl, hk3⟩
  have HK3 := Lib.hid (HK2.out.trans hk3 fun _ _ e => e)
  have HB3 := Lib.hid (HB2.out.kept hk3 fun h => h)
  clear hk3
  generalize hs : says m = s at HS ⊢
  have HEQ := Lib.hid (show coversR (says l) (says m) = coversR r s by rw [HW.out, hs])
  clear hs
  have hb0 := zero_row w3 79
  go_wp2_with (refine wpList_store_box rfl 79 _ _ rfl w3.heap.size (rowV s) rfl rfl 79 (rowV row0) hb0 (size_Row.trans (size_of_row HS.out)) (by rw [rowV_size, rowV_size, HS.out.len]; rfl) (rowV_one _) ?_; intro w4 HB4 hk4; have HK4 := Lib.hid (HK3.out.fresh_set hk4); have HB5 := Lib.hid ((HB3.out.alloc _).kept hk4 (by have := HB3.out.lt; omega)); clear hk4 hb0)
  have hg := HK1.out.size
  have hgh := HB3.out.lt
  have HAT := Lib.hid (show TwoAt w w4 w1.heap.size w3.heap.size r s from ⟨HB5.out, HB4.out, HK4.out⟩)
  clear HB5 HB4 HK4 HB3 HK3 HK2 HB2 HK1
  generalize w1.heap.size = g at hg hgh HAT ⊢
  generalize w3.heap.size = h at hgh HAT ⊢
  go_loopw [7] (fun i wr => ∃ k : Nat, i = .int .i64 k ∧ k ≤ 17 ∧ (∀ j, j < k → rg s j ≤ rg r j) ∧ TwoAt w wr g h r s) (fun i _ => 17 - (intOf i).toNat)
  case atStart => exact ⟨0, rfl, Nat.zero_le _, fun j hj => by omega, HAT.out⟩
  case round =>
    obtain ⟨k, rfl, hk, hall, hat⟩ := hrel
    have HT := Lib.hid hat
    have HA := Lib.hid hall
    clear hat hall
    by_cases hlt : k < 17
    · have c0 : wr.cell? ⟨g, k, none⟩ = some (.int .i64 (rg r k)) := by rw [HT.out.1.cell, rowV_get _ _ (by rw [HR.out.len]; omega)]
      have c1 : wr.cell? ⟨h, k, none⟩ = some (.int .i64 (rg s k)) := by rw [HT.out.2.1.cell, rowV_get _ _ (by rw [HS.out.len]; omega)]
      by_cases hb : rg r k < rg s k
      · have HC := Lib.hid (show coversR r s = false by
          unfold coversR
          rw [List.all_eq_false]
          exact ⟨k, List.mem_range.2 hlt, by simp; omega⟩)
        go_wp2_with (fail)
        go_quiet (fail)
        go_wp2
        go_ret
        exact ⟨by rw [HEQ.out, HC.out]; rfl, HT.out.2.2.drewN nq⟩
      · have e1 : decide (rg r k < rg s k) = false := decide_eq_false hb
        have HN := Lib.hid (show rg s k ≤ rg r k by omega)
        go_wp2_with (fail)
        go_quiet (fail)
        go_wp2
        go_roundw
        case rel => exact ⟨k + 1, by go_num, by omega, fun j hj => (Nat.lt_succ_iff_lt_or_eq.1 hj).elim (HA.out j) (fun e => e ▸ HN.out), HT.out.drewN nq⟩
        case measure => simp [intOf]; omega
    · obtain rfl : k = 17 := by omega
      have HC := Lib.hid (show coversR r s = true by
        unfold coversR
        rw [List.all_eq_true]
        intro j hj
        exact decide_eq_true (HA.out j (List.mem_range.1 hj)))
      go_wp2
      go_ret
      exact ⟨by rw [HEQ.out, HC.out]; rfl, HT.out.2.2⟩
end Go.Proofs.Ythlejmpeigfdgaa
