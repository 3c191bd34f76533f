/- The walk of NetNothing: it is true. No condition. -/
import Derived.Test.YtopcogogpbcbhaaNNil
namespace Go.Proofs.Ytopcogogpbcbhaa
open Go Go.RowKit

/-- A step of a script, and where its bytes lie. -/
structure Stn where
  kind : Int
  num : Int
  src : Int
  dst : Int
  at_ : Int
  data : List Int
  dA : Option Addr
  dc : Nat
def Stn.cs (x : Stn) : Array Value := #[.int .i64 x.kind, .int .i64 x.num, .int .i64 x.src, .int .i64 x.dst, .int .i64 x.at_, .slice x.dA x.data.length x.dc]
set_option maxRecDepth 100000 in
set_option maxHeartbeats 6400000 in
theorem Nothing_walk (x : Stn) (w : World) : Calls Try.prog 5 #[.agg x.cs] w (KnownPost w) := by
  have HA := Lib.hid ((Kept.refl (fun _ => False) w).alloc (.cells x.cs 32))
  have HB := Lib.hid (Box.new w 32 x.cs)
  go_enter Try.func5, Try.ntmps5
  go_upto_region 1 with (fail)
  generalize w.alloc (.cells x.cs 32) = w0 at HA HB ⊢
  have x1 : w0.cell? ⟨w.heap.size, 1, none⟩ = some (.int .i64 x.num) := (HB.out.cell 1).trans rfl
  have x2 : w0.cell? ⟨w.heap.size, 2, none⟩ = some (.int .i64 x.src) := (HB.out.cell 2).trans rfl
  have x3 : w0.cell? ⟨w.heap.size, 3, none⟩ = some (.int .i64 x.dst) := (HB.out.cell 3).trans rfl
  have x4 : w0.cell? ⟨w.heap.size, 4, none⟩ = some (.int .i64 x.at_) := (HB.out.cell 4).trans rfl
  have x5 : w0.cell? ⟨w.heap.size, 5, none⟩ = some (.slice x.dA x.data.length x.dc) := (HB.out.cell 5).trans rfl
  by_cases hl : 60000 < x.data.length
  · have hl' : (60000 : Int) < (x.data.length : Int) := by omega
    go_wp2_with (fail)
    refine (Known20_any w0).mono ?_
    rintro r w1 ⟨rfl, hk⟩
    have HK := Lib.hid (HA.out.trans hk fun _ _ e => e)
    clear hk
    go_wp2_with (fail)
    go_ret
    exact ⟨rfl, HK.out⟩
  have hl' : ¬ (60000 : Int) < (x.data.length : Int) := by omega
  go_wp2_with (fail)
  refine (Send_nil w0 _ _ _ _).mono ?_
  rintro r w1 ⟨rfl, rfl⟩
  go_wp2_with (fail)
  refine (Deliver_nil w1 _).mono ?_
  rintro r w2 ⟨rfl, hk⟩
  have HA' := Lib.hid (HA.out.trans hk fun _ _ e => e)
  have HB' := Lib.hid (HB.out.kept hk id)
  clear HA HB
  have HA := HA'
  clear HA'
  have HB := HB'
  clear HB'
  clear hk
  clear x1 x2 x3 x4 x5
  have x1 : w2.cell? ⟨w.heap.size, 1, none⟩ = some (.int .i64 x.num) := (HB.out.cell 1).trans rfl
  have x2 : w2.cell? ⟨w.heap.size, 2, none⟩ = some (.int .i64 x.src) := (HB.out.cell 2).trans rfl
  have x3 : w2.cell? ⟨w.heap.size, 3, none⟩ = some (.int .i64 x.dst) := (HB.out.cell 3).trans rfl
  have x4 : w2.cell? ⟨w.heap.size, 4, none⟩ = some (.int .i64 x.at_) := (HB.out.cell 4).trans rfl
  have x5 : w2.cell? ⟨w.heap.size, 5, none⟩ = some (.slice x.dA x.data.length x.dc) := (HB.out.cell 5).trans rfl
  have HBX := Lib.hid (Box.new w2 44 (cpC zeroCp none 0))
  have hka : Kept (fun _ => False) w2 (w2.alloc (.cells (cpC zeroCp none 0) 44)) := (Kept.refl _ _).alloc _
  have HKA := Lib.hid hka
  clear hka
  go_wp2_with (refine wpList_store_box rfl 44 (.tmp 6) _ rfl w2.heap.size (cpC zeroCp none 0) rfl rfl 44 (cpC zeroCp none 0) HBX.out (size_cp.trans rfl) rfl (cpC_one _ _ _) ?_; intro w3 HX hk9; refine Hid.out ?_)
  refine Lib.hid ?_
  have hkf : Kept (fun _ => False) w2 w3 := HKA.out.trans hk9 fun k hk e => by omega
  have HA' := Lib.hid (HA.out.trans hkf fun _ _ e => e)
  have HB' := Lib.hid (HB.out.kept hkf id)
  clear HA HB
  have HA := HA'
  clear HA'
  have HB := HB'
  clear HB'
  clear hkf hk9 HKA HBX
  obtain ⟨X, hX⟩ : ∃ X, w2.heap.size = X := ⟨_, rfl⟩
  rw [hX] at HX ⊢
  clear hX
  clear x1 x2 x3 x4 x5
  have x1 : w3.cell? ⟨w.heap.size, 1, none⟩ = some (.int .i64 x.num) := (HB.out.cell 1).trans rfl
  have x2 : w3.cell? ⟨w.heap.size, 2, none⟩ = some (.int .i64 x.src) := (HB.out.cell 2).trans rfl
  have x3 : w3.cell? ⟨w.heap.size, 3, none⟩ = some (.int .i64 x.dst) := (HB.out.cell 3).trans rfl
  have x4 : w3.cell? ⟨w.heap.size, 4, none⟩ = some (.int .i64 x.at_) := (HB.out.cell 4).trans rfl
  have x5 : w3.cell? ⟨w.heap.size, 5, none⟩ = some (.slice x.dA x.data.length x.dc) := (HB.out.cell 5).trans rfl
  go_wp2_with (fail)
  refine (Drop_nil w3 _).mono ?_
  rintro r w4 ⟨rfl, hk⟩
  have HA' := Lib.hid (HA.out.trans hk fun _ _ e => e)
  have HB' := Lib.hid (HB.out.kept hk id)
  have HX' := Lib.hid (HX.out.kept hk id)
  clear HA HB HX
  have HA := HA'
  clear HA'
  have HB := HB'
  clear HB'
  have HX := HX'
  clear HX'
  clear hk
  clear x1 x2 x3 x4 x5
  have x1 : w4.cell? ⟨w.heap.size, 1, none⟩ = some (.int .i64 x.num) := (HB.out.cell 1).trans rfl
  have x2 : w4.cell? ⟨w.heap.size, 2, none⟩ = some (.int .i64 x.src) := (HB.out.cell 2).trans rfl
  have x3 : w4.cell? ⟨w.heap.size, 3, none⟩ = some (.int .i64 x.dst) := (HB.out.cell 3).trans rfl
  have x4 : w4.cell? ⟨w.heap.size, 4, none⟩ = some (.int .i64 x.at_) := (HB.out.cell 4).trans rfl
  have x5 : w4.cell? ⟨w.heap.size, 5, none⟩ = some (.slice x.dA x.data.length x.dc) := (HB.out.cell 5).trans rfl
  have HBX := Lib.hid (Box.new w4 44 (cpC zeroCp none 0))
  have hka : Kept (fun _ => False) w4 (w4.alloc (.cells (cpC zeroCp none 0) 44)) := (Kept.refl _ _).alloc _
  have HKA := Lib.hid hka
  clear hka
  go_wp2_with (refine wpList_store_box rfl 44 (.tmp 8) _ rfl w4.heap.size (cpC zeroCp none 0) rfl rfl 44 (cpC zeroCp none 0) HBX.out (size_cp.trans rfl) rfl (cpC_one _ _ _) ?_; intro w5 HY hk9; refine Hid.out ?_)
  refine Lib.hid ?_
  have hkf : Kept (fun _ => False) w4 w5 := HKA.out.trans hk9 fun k hk e => by omega
  have HA' := Lib.hid (HA.out.trans hkf fun _ _ e => e)
  have HB' := Lib.hid (HB.out.kept hkf id)
  have HX' := Lib.hid (HX.out.kept hkf id)
  clear HA HB HX
  have HA := HA'
  clear HA'
  have HB := HB'
  clear HB'
  have HX := HX'
  clear HX'
  clear hkf hk9 HKA HBX
  obtain ⟨Y, hY⟩ : ∃ Y, w4.heap.size = Y := ⟨_, rfl⟩
  rw [hY] at HY ⊢
  clear hY
  clear x1 x2 x3 x4 x5
  have x1 : w5.cell? ⟨w.heap.size, 1, none⟩ = some (.int .i64 x.num) := (HB.out.cell 1).trans rfl
  have x2 : w5.cell? ⟨w.heap.size, 2, none⟩ = some (.int .i64 x.src) := (HB.out.cell 2).trans rfl
  have x3 : w5.cell? ⟨w.heap.size, 3, none⟩ = some (.int .i64 x.dst) := (HB.out.cell 3).trans rfl
  have x4 : w5.cell? ⟨w.heap.size, 4, none⟩ = some (.int .i64 x.at_) := (HB.out.cell 4).trans rfl
  have x5 : w5.cell? ⟨w.heap.size, 5, none⟩ = some (.slice x.dA x.data.length x.dc) := (HB.out.cell 5).trans rfl
  go_wp2_with (fail)
  refine (Double_nil w5 _).mono ?_
  rintro r w6 ⟨rfl, hk⟩
  have HA' := Lib.hid (HA.out.trans hk fun _ _ e => e)
  have HB' := Lib.hid (HB.out.kept hk id)
  have HX' := Lib.hid (HX.out.kept hk id)
  have HY' := Lib.hid (HY.out.kept hk id)
  clear HA HB HX HY
  have HA := HA'
  clear HA'
  have HB := HB'
  clear HB'
  have HX := HX'
  clear HX'
  have HY := HY'
  clear HY'
  clear hk
  clear x1 x2 x3 x4 x5
  have u0 : w6.cell? ⟨X, 0, none⟩ = some (.int .i64 0) := (HX.out.cell 0).trans rfl
  have u1 : w6.cell? ⟨X, 1, none⟩ = some (.int .i64 0) := (HX.out.cell 1).trans rfl
  have u2 : w6.cell? ⟨X, 2, none⟩ = some (.int .i64 0) := (HX.out.cell 2).trans rfl
  have u3 : w6.cell? ⟨X, 3, none⟩ = some (.slice none 0 0) := (HX.out.cell 3).trans rfl
  have u4 : w6.cell? ⟨X, 4, none⟩ = some (.int .i64 0) := (HX.out.cell 4).trans rfl
  have u5 : w6.cell? ⟨X, 5, none⟩ = some (.bool false) := (HX.out.cell 5).trans rfl
  go_wp2_with (fail)
  refine (Same20_any zeroCp zeroCp none none 0 0 w6 BytesAt.nil BytesAt.nil (by decide)).mono ?_
  rintro r w7 ⟨bb, rfl, hbb, hk⟩
  obtain rfl : bb = true := hbb.2 (Cp.same_refl _)
  clear u0 u1 u2 u3 u4 u5 hbb
  have HA' := Lib.hid (HA.out.trans hk fun _ _ e => e)
  have HB' := Lib.hid (HB.out.kept hk id)
  have HY' := Lib.hid (HY.out.kept hk id)
  clear HA HB HY
  have HA := HA'
  clear HA'
  have HB := HB'
  clear HB'
  have HY := HY'
  clear HY'
  clear hk
  have u0 : w7.cell? ⟨Y, 0, none⟩ = some (.int .i64 0) := (HY.out.cell 0).trans rfl
  have u1 : w7.cell? ⟨Y, 1, none⟩ = some (.int .i64 0) := (HY.out.cell 1).trans rfl
  have u2 : w7.cell? ⟨Y, 2, none⟩ = some (.int .i64 0) := (HY.out.cell 2).trans rfl
  have u3 : w7.cell? ⟨Y, 3, none⟩ = some (.slice none 0 0) := (HY.out.cell 3).trans rfl
  have u4 : w7.cell? ⟨Y, 4, none⟩ = some (.int .i64 0) := (HY.out.cell 4).trans rfl
  have u5 : w7.cell? ⟨Y, 5, none⟩ = some (.bool false) := (HY.out.cell 5).trans rfl
  go_wp2_with (fail)
  refine (Same20_any zeroCp zeroCp none none 0 0 w7 BytesAt.nil BytesAt.nil (by decide)).mono ?_
  rintro r w8 ⟨bb, rfl, hbb, hk⟩
  obtain rfl : bb = true := hbb.2 (Cp.same_refl _)
  clear u0 u1 u2 u3 u4 u5 hbb
  have HA' := Lib.hid (HA.out.trans hk fun _ _ e => e)
  have HB' := Lib.hid (HB.out.kept hk id)
  clear HA HB
  have HA := HA'
  clear HA'
  have HB := HB'
  clear HB'
  clear hk
  have x1 : w8.cell? ⟨w.heap.size, 1, none⟩ = some (.int .i64 x.num) := (HB.out.cell 1).trans rfl
  have x2 : w8.cell? ⟨w.heap.size, 2, none⟩ = some (.int .i64 x.src) := (HB.out.cell 2).trans rfl
  have x3 : w8.cell? ⟨w.heap.size, 3, none⟩ = some (.int .i64 x.dst) := (HB.out.cell 3).trans rfl
  have x4 : w8.cell? ⟨w.heap.size, 4, none⟩ = some (.int .i64 x.at_) := (HB.out.cell 4).trans rfl
  have x5 : w8.cell? ⟨w.heap.size, 5, none⟩ = some (.slice x.dA x.data.length x.dc) := (HB.out.cell 5).trans rfl
  go_wp2_with (fail)
  refine (Alter_nil w8 _ _ _ _ _).mono ?_
  rintro r w9 ⟨rfl, hk⟩
  have HA' := Lib.hid (HA.out.trans hk fun _ _ e => e)
  have HB' := Lib.hid (HB.out.kept hk id)
  clear HA HB
  have HA := HA'
  clear HA'
  have HB := HB'
  clear HB'
  clear hk
  clear x1 x2 x3 x4 x5
  have x1 : w9.cell? ⟨w.heap.size, 1, none⟩ = some (.int .i64 x.num) := (HB.out.cell 1).trans rfl
  have x2 : w9.cell? ⟨w.heap.size, 2, none⟩ = some (.int .i64 x.src) := (HB.out.cell 2).trans rfl
  have x3 : w9.cell? ⟨w.heap.size, 3, none⟩ = some (.int .i64 x.dst) := (HB.out.cell 3).trans rfl
  have x4 : w9.cell? ⟨w.heap.size, 4, none⟩ = some (.int .i64 x.at_) := (HB.out.cell 4).trans rfl
  have x5 : w9.cell? ⟨w.heap.size, 5, none⟩ = some (.slice x.dA x.data.length x.dc) := (HB.out.cell 5).trans rfl
  go_wp2_with (fail)
  refine (Cut_nil w9 _ _).mono ?_
  rintro r w10 ⟨rfl, hk⟩
  have HA' := Lib.hid (HA.out.trans hk fun _ _ e => e)
  clear HA
  have HA := HA'
  clear HA'
  clear hk
  clear x1 x2 x3 x4 x5
  go_wp2_with (fail)
  refine (Copies_nil w10).mono ?_
  rintro r w11 ⟨rfl, rfl⟩
  go_wp2_with (fail)
  refine (Known20_any w11).mono ?_
  rintro r w12 ⟨rfl, hk⟩
  have HK := Lib.hid (HA.out.trans hk fun _ _ e => e)
  clear hk
  go_wp2_with (fail)
  go_ret
  exact ⟨rfl, HK.out⟩
end Go.Proofs.Ytopcogogpbcbhaa
