/- The walks of net's methods where there is no network. No condition. -/
import Derived.Test.YtopcogogpbcbhaaNKnw
namespace Go.Proofs.Ytopcogogpbcbhaa
open Go Go.RowKit

theorem FoundI_nil (w : World) (n : Int) (v : Value) : Calls Try.prog 41 #[.pointer none, .int .i64 n, v] w (fun r w' => r = .returned (.tuple #[.int .i64 0, .int .i64 1]) ∧ w' = w) := by
  go_enter Try.func41, Try.ntmps41
  go_wp2_with (fail)
  go_ret2
  exact ⟨rfl, rfl⟩
set_option maxRecDepth 100000 in
set_option maxHeartbeats 1600000 in
theorem FoundC_nil (w : World) (n : Int) (v : Value) : Calls Try.prog 55 #[.pointer none, .int .i64 n, v] w (fun r w' => r = .returned (.tuple #[.agg (cpC zeroCp none 0), .int .i64 1]) ∧ Kept (fun _ => False) w w') := by
  have hka : Kept (fun _ => False) w ((w.alloc (.cells (cpC zeroCp none 0) 44)).alloc (.cells (cpC zeroCp none 0) 44)) := ((Kept.refl _ _).alloc _).alloc _
  have HA := Lib.hid hka
  have HB6 := Lib.hid ((Box.new w 44 (cpC zeroCp none 0)).alloc (.cells (cpC zeroCp none 0) 44))
  have HB8 := Lib.hid ((Box.new (w.alloc (.cells (cpC zeroCp none 0) 44)) 44 (cpC zeroCp none 0)).at_eq (show _ = w.heap.size + 1 by simp))
  clear hka
  go_enter Try.func55, Try.ntmps55
  go_upto_region 2 with (fail)
  have hzz : (w.alloc (.cells #[.int .i64 0, .int .i64 0, .int .i64 0, .slice none 0 0, .int .i64 0, .bool false] 44)).alloc (.cells #[.int .i64 0, .int .i64 0, .int .i64 0, .slice none 0 0, .int .i64 0, .bool false] 44) = (w.alloc (.cells (cpC zeroCp none 0) 44)).alloc (.cells (cpC zeroCp none 0) 44) := rfl
  rw [hzz]
  clear hzz
  generalize (w.alloc (.cells (cpC zeroCp none 0) 44)).alloc (.cells (cpC zeroCp none 0) 44) = w0 at HA HB6 HB8 ⊢
  go_wp2_with (first | refine wpList_load_box rfl _ _ rfl (w.heap.size + 1) rfl 44 (cpC zeroCp none 0) _ HB8.out Try.underlying44 rfl (size_cp.trans rfl) ?_ | (refine wpList_store_box rfl 44 (.tmp 6) (.tmp 13) rfl w.heap.size (cpC zeroCp none 0) rfl rfl 44 (cpC zeroCp none 0) HB6.out (size_cp.trans rfl) rfl (cpC_one _ _ _) ?_; intro w2 HB2 hk2))
  refine bodyPost_ret (results_cell_slot (show Try.f55.results = #[.cell 6 44, .tmp 7] by kernel_rfl) _ _ _ _ w.heap.size rfl (load_CP HB2.out) rfl) rfl ?_
  exact ⟨rfl, HA.out.trans hk2 fun k hk e => by omega⟩
set_option maxRecDepth 100000 in
set_option maxHeartbeats 1600000 in
theorem FoundN_nil (w : World) (n : Int) (v : Value) : Calls Try.prog 43 #[.pointer none, .int .i64 n, v] w (fun r w' => r = .returned (.tuple #[.agg #[], .int .i64 1]) ∧ Kept (fun _ => False) w w') := by
  have hka : Kept (fun _ => False) w ((w.alloc (.cells #[] 90)).alloc (.cells #[] 90)) := ((Kept.refl _ _).alloc _).alloc _
  have HA := Lib.hid hka
  have HB6 := Lib.hid ((Box.new w 90 #[]).alloc (.cells #[] 90))
  clear hka
  go_enter Try.func43, Try.ntmps43
  go_upto_region 2 with (fail)
  generalize (w.alloc (.cells #[] 90)).alloc (.cells #[] 90) = w0 at HA HB6 ⊢
  go_wp2_with (fail)
  refine bodyPost_ret (results_cell_slot (show Try.f43.results = #[.cell 6 90, .tmp 7] by kernel_rfl) _ _ _ _ w.heap.size rfl (load_NO HB6.out) rfl) rfl ?_
  exact ⟨rfl, HA.out⟩
theorem Double_nil (w : World) (n : Int) : Calls Try.prog 21 #[.pointer none, .int .i64 n] w (fun r w' => r = .returned (.tuple #[.int .i64 0, .int .i64 1]) ∧ Kept (fun _ => False) w w') := by
  have hmf : ∀ (fn : Fn) (first cap : Array Value) (w : World), (Instr.makeFunc fn first cap).run Try.prog w = .ok (.func fn first cap) w := fun _ _ _ _ => rfl
  go_enter Try.func21, Try.ntmps21
  go_wp2_with (fail)
  refine (FoundI_nil _ n _).mono ?_
  rintro r w1 ⟨rfl, rfl⟩
  go_wp2_with (fail)
  go_ret2
  exact ⟨rfl, (Kept.refl _ _).alloc _⟩
theorem Alter_nil (w : World) (n a : Int) (A : Option Addr) (m c : Nat) : Calls Try.prog 23 #[.pointer none, .int .i64 n, .int .i64 a, .slice A m c] w (fun r w' => r = .returned (.int .i64 1) ∧ Kept (fun _ => False) w w') := by
  have hmf : ∀ (fn : Fn) (first cap : Array Value) (w : World), (Instr.makeFunc fn first cap).run Try.prog w = .ok (.func fn first cap) w := fun _ _ _ _ => rfl
  go_enter Try.func23, Try.ntmps23
  go_wp2_with (fail)
  refine (FoundN_nil _ n _).mono ?_
  rintro r w1 ⟨rfl, hk⟩
  have HK := Lib.hid ((((Kept.refl (fun _ => False) w).alloc _).alloc _).trans hk fun _ _ e => e)
  clear hk
  go_wp2_with (fail)
  go_ret
  exact ⟨rfl, HK.out.alloc _⟩
theorem Cut_nil (w : World) (n k : Int) : Calls Try.prog 24 #[.pointer none, .int .i64 n, .int .i64 k] w (fun r w' => r = .returned (.int .i64 1) ∧ Kept (fun _ => False) w w') := by
  have hmf : ∀ (fn : Fn) (first cap : Array Value) (w : World), (Instr.makeFunc fn first cap).run Try.prog w = .ok (.func fn first cap) w := fun _ _ _ _ => rfl
  go_enter Try.func24, Try.ntmps24
  go_wp2_with (fail)
  refine (FoundN_nil _ n _).mono ?_
  rintro r w1 ⟨rfl, hk⟩
  have HK := Lib.hid (((Kept.refl (fun _ => False) w).alloc _).trans hk fun _ _ e => e)
  clear hk
  go_wp2_with (fail)
  go_ret
  exact ⟨rfl, HK.out.alloc _⟩
set_option maxRecDepth 100000 in
set_option maxHeartbeats 1600000 in
theorem Off_nil (w : World) (n : Int) : Calls Try.prog 40 #[.pointer none, .int .i64 n] w (fun r w' => r = .returned (.tuple #[.agg (cpC zeroCp none 0), .int .i64 1]) ∧ Kept (fun _ => False) w w') := by
  have hmf : ∀ (fn : Fn) (first cap : Array Value) (w : World), (Instr.makeFunc fn first cap).run Try.prog w = .ok (.func fn first cap) w := fun _ _ _ _ => rfl
  have hka : Kept (fun _ => False) w (((w.alloc (.cells #[.pointer none] 25)).alloc (.cells #[.int .i64 n] 3)).alloc (.cells (cpC zeroCp none 0) 44)) := (((Kept.refl _ _).alloc _).alloc _).alloc _
  have HA := Lib.hid hka
  have HB := Lib.hid (((Box.new w 25 #[.pointer none]).alloc (.cells #[.int .i64 n] 3)).alloc (.cells (cpC zeroCp none 0) 44))
  have HC := Lib.hid (((Box.new (w.alloc (.cells #[.pointer none] 25)) 3 #[.int .i64 n]).at_eq (show _ = w.heap.size + 1 by simp)).alloc (.cells (cpC zeroCp none 0) 44))
  have HR := Lib.hid ((Box.new ((w.alloc (.cells #[.pointer none] 25)).alloc (.cells #[.int .i64 n] 3)) 44 (cpC zeroCp none 0)).at_eq (show _ = w.heap.size + 2 by simp))
  clear hka
  go_enter Try.func40, Try.ntmps40
  go_upto_region 1 with (fail)
  have hzz : ((w.alloc (.cells #[.pointer none] 25)).alloc (.cells #[.int .i64 n] 3)).alloc (.cells #[.int .i64 0, .int .i64 0, .int .i64 0, .slice none 0 0, .int .i64 0, .bool false] 44) = ((w.alloc (.cells #[.pointer none] 25)).alloc (.cells #[.int .i64 n] 3)).alloc (.cells (cpC zeroCp none 0) 44) := rfl
  rw [hzz]
  clear hzz
  generalize ((w.alloc (.cells #[.pointer none] 25)).alloc (.cells #[.int .i64 n] 3)).alloc (.cells (cpC zeroCp none 0) 44) = w0 at HA HB HC HR ⊢
  have x0 : w0.cell? ⟨w.heap.size, 0, none⟩ = some (.pointer none) := (HB.out.cell 0).trans rfl
  have x1 : w0.cell? ⟨w.heap.size + 1, 0, none⟩ = some (.int .i64 n) := (HC.out.cell 0).trans rfl
  go_wp2_with (fail)
  refine (FoundC_nil w0 n _).mono ?_
  rintro r w1 ⟨rfl, hk1⟩
  have HR1 := Lib.hid (HR.out.kept hk1 id)
  have HK1 := Lib.hid (HA.out.trans hk1 fun _ _ e => e)
  clear hk1
  go_wp2_with (refine wpList_store_box rfl 44 (.tmp 4) (.tmp 10) rfl (w.heap.size + 2) (cpC zeroCp none 0) rfl rfl 44 (cpC zeroCp none 0) HR1.out (size_cp.trans rfl) rfl (cpC_one _ _ _) ?_; intro w4 HB4 hk4)
  refine bodyPost_ret (results_cell_slot (show Try.f40.results = #[.cell 4 44, .tmp 5] by kernel_rfl) _ _ _ _ (w.heap.size + 2) rfl (load_CP HB4.out) rfl) rfl ?_
  exact ⟨rfl, HK1.out.trans hk4 fun k hk e => by omega⟩
set_option maxRecDepth 100000 in
set_option maxHeartbeats 1600000 in
theorem Deliver_nil (w : World) (n : Int) : Calls Try.prog 19 #[.pointer none, .int .i64 n] w (fun r w' => r = .returned (.tuple #[.agg (cpC zeroCp none 0), .int .i64 1]) ∧ Kept (fun _ => False) w w') := by
  have hka : Kept (fun _ => False) w (w.alloc (.cells (cpC zeroCp none 0) 44)) := (Kept.refl _ _).alloc _
  have HA := Lib.hid hka
  have HR := Lib.hid (Box.new w 44 (cpC zeroCp none 0))
  clear hka
  go_enter Try.func19, Try.ntmps19
  go_upto_region 1 with (fail)
  have hzz : w.alloc (.cells #[.int .i64 0, .int .i64 0, .int .i64 0, .slice none 0 0, .int .i64 0, .bool false] 44) = w.alloc (.cells (cpC zeroCp none 0) 44) := rfl
  rw [hzz]
  clear hzz
  generalize w.alloc (.cells (cpC zeroCp none 0) 44) = w0 at HA HR ⊢
  go_wp2_with (fail)
  refine (Off_nil w0 n).mono ?_
  rintro r w1 ⟨rfl, hk1⟩
  have HR1 := Lib.hid (HR.out.kept hk1 id)
  have HK1 := Lib.hid (HA.out.trans hk1 fun _ _ e => e)
  clear hk1
  go_wp2_with (refine wpList_store_box rfl 44 (.tmp 4) (.tmp 9) rfl w.heap.size (cpC zeroCp none 0) rfl rfl 44 (cpC zeroCp none 0) HR1.out (size_cp.trans rfl) rfl (cpC_one _ _ _) ?_; intro w4 HB4 hk4)
  refine bodyPost_ret (results_cell_slot (show Try.f19.results = #[.cell 4 44, .tmp 5] by kernel_rfl) _ _ _ _ w.heap.size rfl (load_CP HB4.out) rfl) rfl ?_
  exact ⟨rfl, HK1.out.trans hk4 fun k hk e => by omega⟩
set_option maxRecDepth 100000 in
set_option maxHeartbeats 1600000 in
theorem Drop_nil (w : World) (n : Int) : Calls Try.prog 20 #[.pointer none, .int .i64 n] w (fun r w' => r = .returned (.tuple #[.agg (cpC zeroCp none 0), .int .i64 1]) ∧ Kept (fun _ => False) w w') := by
  have hka : Kept (fun _ => False) w (w.alloc (.cells (cpC zeroCp none 0) 44)) := (Kept.refl _ _).alloc _
  have HA := Lib.hid hka
  have HR := Lib.hid (Box.new w 44 (cpC zeroCp none 0))
  clear hka
  go_enter Try.func20, Try.ntmps20
  go_upto_region 1 with (fail)
  have hzz : w.alloc (.cells #[.int .i64 0, .int .i64 0, .int .i64 0, .slice none 0 0, .int .i64 0, .bool false] 44) = w.alloc (.cells (cpC zeroCp none 0) 44) := rfl
  rw [hzz]
  clear hzz
  generalize w.alloc (.cells (cpC zeroCp none 0) 44) = w0 at HA HR ⊢
  go_wp2_with (fail)
  refine (Off_nil w0 n).mono ?_
  rintro r w1 ⟨rfl, hk1⟩
  have HR1 := Lib.hid (HR.out.kept hk1 id)
  have HK1 := Lib.hid (HA.out.trans hk1 fun _ _ e => e)
  clear hk1
  go_wp2_with (refine wpList_store_box rfl 44 (.tmp 4) (.tmp 9) rfl w.heap.size (cpC zeroCp none 0) rfl rfl 44 (cpC zeroCp none 0) HR1.out (size_cp.trans rfl) rfl (cpC_one _ _ _) ?_; intro w4 HB4 hk4)
  refine bodyPost_ret (results_cell_slot (show Try.f20.results = #[.cell 4 44, .tmp 5] by kernel_rfl) _ _ _ _ w.heap.size rfl (load_CP HB4.out) rfl) rfl ?_
  exact ⟨rfl, HK1.out.trans hk4 fun k hk e => by omega⟩
end Go.Proofs.Ytopcogogpbcbhaa
