/- The walks of the reference's Sum and of both Checks. Conditions: the Dots lie in memory as DotsAt says. -/
import Derived.Test.YtnfehkncfjgeeaaVGet
namespace Go.Proofs.Ytnfehkncfjgeeaa
open Go.RowKit

theorem zero_row (w : World) (T : TypeId) : Box (w.alloc (.cells #[.int .i64 0, .int .i64 0, .int .i64 0, .int .i64 0, .int .i64 0, .int .i64 0, .int .i64 0, .int .i64 0, .int .i64 0, .int .i64 0, .int .i64 0, .int .i64 0, .int .i64 0, .int .i64 0, .int .i64 0, .int .i64 0, .int .i64 0] T)) w.heap.size T (rowV row0) := Box.new w T (rowV row0)
theorem Kept.fresh_set {w w1 w2 : World} {o : Obj} (h : Kept (fun _ => False) w w1) (hk : Kept (fun k => k = w1.heap.size) (w1.alloc o) w2) : Kept (fun _ => False) w w2 :=
  (h.alloc o).trans hk fun j hj e => by have := h.size; omega

set_option maxRecDepth 100000 in
set_option maxHeartbeats 1600000 in
theorem RSum_any (A : Option Addr) (l : List Dt) (c : Nat) (w : World) (hl : DotsAt w A l) (hlen : l.length ≤ 4611686018427387904) :
    Calls Try.prog 33 #[.slice A l.length c] w (IntPost w (sumR (says l) 17)) := by
  have HL := Lib.hid hl
  generalize hs : sumR (says l) 17 = sum
  clear hl
  have HS := Lib.hid hs
  clear hs
  go_enter Try.func33, Try.ntmps33
  go_wp2_with (fail)
  refine (Says_any A l c _ HL.out hlen).mono ?_
  rintro e w1 ⟨rfl, hk⟩
  have HK := Lib.hid hk
  clear hk
  have HR := Lib.hid (Row.says l)
  generalize says l = r at HR HS ⊢
  have hb0 := zero_row w1 89
  have HL0 := Lib.hid HR.out.len
  go_wp2_with (refine wpList_store_box rfl 89 (.tmp 3) (.tmp 7) rfl w1.heap.size (rowV r) rfl rfl 89 (rowV row0) hb0 (size_Row.trans (size_of_row HR.out)) (by rw [rowV_size, rowV_size, HR.out.len]; rfl) (rowV_one _) ?_; intro w2 HB2 hk2; have HK2 := Lib.hid (HK.out.fresh_set hk2); clear hk2 hb0)
  go_loop [4, 5] (fun n i => ∃ k : Nat, i = .int .i64 k ∧ k ≤ 17 ∧ n = .int .i64 (sumR r k)) (fun _ i => 17 - (intOf i).toNat)
  case atStart => exact ⟨0, rfl, Nat.zero_le _, rfl⟩
  case round =>
    obtain ⟨k, rfl, hk, rfl⟩ := hrel
    by_cases hlt : k < 17
    · have hc : w2.cell? ⟨w1.heap.size, k, none⟩ = some (.int .i64 (rg r k)) := by rw [HB2.out.cell, rowV_get _ _ (by rw [HL0.out]; omega)]
      have hb := HR.out.bd k
      have hsu := sumR_le HR.out k
      have HE := Lib.hid (show sumR r (k + 1) = sumR r k + rg r k from rfl)
      obtain ⟨hb1, hb2⟩ := hb
      obtain ⟨hs1, hs2⟩ := hsu
      generalize rg r k = x at hc hb1 hb2 HE
      generalize sumR r k = y at hs1 hs2 HE ⊢
      go_wp2
      go_round
      case rel => exact ⟨k + 1, by go_num, by omega, by rw [HE.out]⟩
      case measure => simp [intOf]; omega
    · obtain rfl : k = 17 := by omega
      have hss := HS.out
      rw [hss]
      go_wp2
      go_ret
      exact ⟨rfl, HK2.out⟩
end Go.Proofs.Ytnfehkncfjgeeaa
