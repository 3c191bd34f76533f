/- hearsaylaw10.ops, ints at no elements, images at zero images, same at the example's frame. Conditions: the Dots lie in memory. -/
import Derived.Test.YtoeipjhdpeibpaaGreatKVec
import Derived.Test.YtoeipjhdpeibpaaGreatKCls
namespace Go.Proofs.YtoeipjhdpeibpaaGreat
open Go Go.RowKit

set_option maxHeartbeats 1600000 in
theorem ops10_nil (w : World) : Calls Tryz.prog 45 #[.slice none 0 0, .slice none 0 0] w (SamePost w true) := by
  go_enter Tryz.func45, Tryz.ntmps45
  go_wp2_with (fail)
  go_loopw [5] (fun i wr => i = .int .i64 0 ∧ wr = w) (fun _ _ => 0)
  case atStart => exact ⟨rfl, rfl⟩
  case round =>
    obtain ⟨rfl, rfl⟩ := hrel
    go_wp2_with (fail)
    go_ret
    exact ⟨rfl, Kept.refl _ _⟩

set_option maxHeartbeats 1600000 in
theorem ints10_nil (w : World) : Calls Tryz.prog 65 #[.slice none 0 0, .slice none 0 0] w (SamePost w true) := by
  go_enter Tryz.func65, Tryz.ntmps65
  go_wp2_with (fail)
  go_loopw [5] (fun i wr => i = .int .i64 0 ∧ wr = w) (fun _ _ => 0)
  case atStart => exact ⟨rfl, rfl⟩
  case round =>
    obtain ⟨rfl, rfl⟩ := hrel
    go_wp2_with (fail)
    go_ret
    exact ⟨rfl, Kept.refl _ _⟩

set_option maxRecDepth 100000 in
set_option maxHeartbeats 3200000 in
theorem images10_zero (w : World) : Calls Tryz.prog 46 #[.agg imZ, .agg imZ] w (SamePost w true) := by
  unfold imZ
  have hk : Kept (fun _ => False) w ((w.alloc (.cells #[.slice none 0 0, .slice none 0 0, .int .i64 0, .slice none 0 0, .slice none 0 0, .slice none 0 0, .slice none 0 0, .int .i64 0] 37)).alloc (.cells #[.slice none 0 0, .slice none 0 0, .int .i64 0, .slice none 0 0, .slice none 0 0, .slice none 0 0, .slice none 0 0, .int .i64 0] 37)) := ((Kept.refl _ _).alloc _).alloc _
  have hb1 := (Box.new w 37 #[.slice none 0 0, .slice none 0 0, .int .i64 0, .slice none 0 0, .slice none 0 0, .slice none 0 0, .slice none 0 0, .int .i64 0]).alloc (.cells #[.slice none 0 0, .slice none 0 0, .int .i64 0, .slice none 0 0, .slice none 0 0, .slice none 0 0, .slice none 0 0, .int .i64 0] 37)
  have hb2 := Box.new (w.alloc (.cells #[.slice none 0 0, .slice none 0 0, .int .i64 0, .slice none 0 0, .slice none 0 0, .slice none 0 0, .slice none 0 0, .int .i64 0] 37)) 37 #[.slice none 0 0, .slice none 0 0, .int .i64 0, .slice none 0 0, .slice none 0 0, .slice none 0 0, .slice none 0 0, .int .i64 0]
  rw [World.size_alloc] at hb2
  go_enter Tryz.func46, Tryz.ntmps46
  go_upto_region 1 with (fail)
  generalize (w.alloc (.cells #[.slice none 0 0, .slice none 0 0, .int .i64 0, .slice none 0 0, .slice none 0 0, .slice none 0 0, .slice none 0 0, .int .i64 0] 37)).alloc (.cells #[.slice none 0 0, .slice none 0 0, .int .i64 0, .slice none 0 0, .slice none 0 0, .slice none 0 0, .slice none 0 0, .int .i64 0] 37) = w1 at hk hb1 hb2 ⊢
  obtain ⟨g, hg⟩ : ∃ g, w.heap.size = g := ⟨_, rfl⟩
  rw [hg] at hb1 hb2 ⊢
  have HB1 := Lib.hid hb1
  have HB2 := Lib.hid hb2
  have HK := Lib.hid hk
  have HC := Lib.hid (fun (W : World) (hW : Kept (fun _ => False) w1 W) => (show W.cell? ⟨g, 0, none⟩ = some (.slice none 0 0) ∧ W.cell? ⟨g + 1, 0, none⟩ = some (.slice none 0 0) ∧ W.cell? ⟨g, 1, none⟩ = some (.slice none 0 0) ∧ W.cell? ⟨g + 1, 1, none⟩ = some (.slice none 0 0) ∧ W.cell? ⟨g, 2, none⟩ = some (.int .i64 0) ∧ W.cell? ⟨g + 1, 2, none⟩ = some (.int .i64 0) ∧ W.cell? ⟨g, 3, none⟩ = some (.slice none 0 0) ∧ W.cell? ⟨g + 1, 3, none⟩ = some (.slice none 0 0) ∧ W.cell? ⟨g, 4, none⟩ = some (.slice none 0 0) ∧ W.cell? ⟨g + 1, 4, none⟩ = some (.slice none 0 0) ∧ W.cell? ⟨g, 5, none⟩ = some (.slice none 0 0) ∧ W.cell? ⟨g + 1, 5, none⟩ = some (.slice none 0 0) ∧ W.cell? ⟨g, 6, none⟩ = some (.slice none 0 0) ∧ W.cell? ⟨g + 1, 6, none⟩ = some (.slice none 0 0) ∧ W.cell? ⟨g, 7, none⟩ = some (.int .i64 0) ∧ W.cell? ⟨g + 1, 7, none⟩ = some (.int .i64 0) from
    ⟨((HB1.out.kept hW id).cell 0).trans rfl, ((HB2.out.kept hW id).cell 0).trans rfl, ((HB1.out.kept hW id).cell 1).trans rfl, ((HB2.out.kept hW id).cell 1).trans rfl, ((HB1.out.kept hW id).cell 2).trans rfl, ((HB2.out.kept hW id).cell 2).trans rfl, ((HB1.out.kept hW id).cell 3).trans rfl, ((HB2.out.kept hW id).cell 3).trans rfl, ((HB1.out.kept hW id).cell 4).trans rfl, ((HB2.out.kept hW id).cell 4).trans rfl, ((HB1.out.kept hW id).cell 5).trans rfl, ((HB2.out.kept hW id).cell 5).trans rfl, ((HB1.out.kept hW id).cell 6).trans rfl, ((HB2.out.kept hW id).cell 6).trans rfl, ((HB1.out.kept hW id).cell 7).trans rfl, ((HB2.out.kept hW id).cell 7).trans rfl⟩))
  clear hb1 hb2 hk hg HB1 HB2
  obtain ⟨x0, y0, x1, y1, x2, y2, x3, y3, x4, y4, x5, y5, x6, y6, x7, y7⟩ := HC.out w1 (Kept.refl _ _)
  go_wp2_with (fail)
  refine ((Vec10_any none none [] [] 0 0 _ (fun k hk => absurd hk (Nat.not_lt_zero k)) (fun k hk => absurd hk (Nat.not_lt_zero k)) (by decide))).mono ?_
  unfold SamePost
  rintro r w2 ⟨rfl, hk2⟩
  have HK2 := Lib.hid (hk2)
  clear hk2 x0 y0 x1 y1 x2 y2 x3 y3 x4 y4 x5 y5 x6 y6 x7 y7
  obtain ⟨x0, y0, x1, y1, x2, y2, x3, y3, x4, y4, x5, y5, x6, y6, x7, y7⟩ := HC.out w2 HK2.out
  go_wp2_with (fail)
  refine ((Vec10_any none none [] [] 0 0 _ (fun k hk => absurd hk (Nat.not_lt_zero k)) (fun k hk => absurd hk (Nat.not_lt_zero k)) (by decide))).mono ?_
  unfold SamePost
  rintro r w3 ⟨rfl, hk3⟩
  have HK3 := Lib.hid (HK2.out.trans hk3 fun _ _ e => e)
  clear hk3 x0 y0 x1 y1 x2 y2 x3 y3 x4 y4 x5 y5 x6 y6 x7 y7 HK2
  obtain ⟨x0, y0, x1, y1, x2, y2, x3, y3, x4, y4, x5, y5, x6, y6, x7, y7⟩ := HC.out w3 HK3.out
  go_wp2_with (fail)
  refine (ops10_nil _).mono ?_
  unfold SamePost
  rintro r w4 ⟨rfl, hk4⟩
  have HK4 := Lib.hid (HK3.out.trans hk4 fun _ _ e => e)
  clear hk4 x0 y0 x1 y1 x2 y2 x3 y3 x4 y4 x5 y5 x6 y6 x7 y7 HK3
  obtain ⟨x0, y0, x1, y1, x2, y2, x3, y3, x4, y4, x5, y5, x6, y6, x7, y7⟩ := HC.out w4 HK4.out
  go_wp2_with (fail)
  refine (ints10_nil _).mono ?_
  unfold SamePost
  rintro r w5 ⟨rfl, hk5⟩
  have HK5 := Lib.hid (HK4.out.trans hk5 fun _ _ e => e)
  clear hk5 x0 y0 x1 y1 x2 y2 x3 y3 x4 y4 x5 y5 x6 y6 x7 y7 HK4
  obtain ⟨x0, y0, x1, y1, x2, y2, x3, y3, x4, y4, x5, y5, x6, y6, x7, y7⟩ := HC.out w5 HK5.out
  go_wp2_with (fail)
  refine (ints10_nil _).mono ?_
  unfold SamePost
  rintro r w6 ⟨rfl, hk6⟩
  have HK6 := Lib.hid (HK5.out.trans hk6 fun _ _ e => e)
  clear hk6 x0 y0 x1 y1 x2 y2 x3 y3 x4 y4 x5 y5 x6 y6 x7 y7 HK5
  obtain ⟨x0, y0, x1, y1, x2, y2, x3, y3, x4, y4, x5, y5, x6, y6, x7, y7⟩ := HC.out w6 HK6.out
  go_wp2_with (fail)
  go_loopw [5] (fun i wr => i = .int .i64 0 ∧ wr = w6) (fun _ _ => 0)
  case atStart => exact ⟨rfl, rfl⟩
  case round =>
    obtain ⟨rfl, rfl⟩ := hrel
    go_wp2_with (fail)
    go_ret
    exact ⟨rfl, HK.out.trans HK6.out fun _ _ e => e⟩

set_option maxRecDepth 100000 in
set_option maxHeartbeats 6400000 in
theorem same10_ex (A B : Option Addr) (c d : Nat) (w : World) (ha : DotsAt w A [⟨1, 7⟩]) (hb : DotsAt w B [⟨1, 7⟩]) : Calls Tryz.prog 12 #[.agg (exC A c), .agg (exC B d)] w (SamePost w true) := by
  unfold exC
  have HV := Lib.hid (fun W (hW : Kept (fun _ => False) w W) => (show Calls Tryz.prog 44 #[.slice A 1 c, .slice B 1 d] W (SamePost W true) from Vec10_any A B [⟨1, 7⟩] [⟨1, 7⟩] c d W (ha.fresh hW) (hb.fresh hW) (by decide)))
  have hk : Kept (fun _ => False) w ((w.alloc (.cells #[.int .i64 1, .int .i64 1, .int .i64 2, .int .i64 3, .int .i64 4, .int .i64 5, .bool true, .slice A 1 c, .slice none 0 0, .slice none 0 0, .slice none 0 0, .int .i64 0, .slice none 0 0, .slice none 0 0, .slice none 0 0, .slice none 0 0, .int .i64 0] 39)).alloc (.cells #[.int .i64 1, .int .i64 1, .int .i64 2, .int .i64 3, .int .i64 4, .int .i64 5, .bool true, .slice B 1 d, .slice none 0 0, .slice none 0 0, .slice none 0 0, .int .i64 0, .slice none 0 0, .slice none 0 0, .slice none 0 0, .slice none 0 0, .int .i64 0] 39)) := ((Kept.refl _ _).alloc _).alloc _
  have hb1 := (Box.new w 39 #[.int .i64 1, .int .i64 1, .int .i64 2, .int .i64 3, .int .i64 4, .int .i64 5, .bool true, .slice A 1 c, .slice none 0 0, .slice none 0 0, .slice none 0 0, .int .i64 0, .slice none 0 0, .slice none 0 0, .slice none 0 0, .slice none 0 0, .int .i64 0]).alloc (.cells #[.int .i64 1, .int .i64 1, .int .i64 2, .int .i64 3, .int .i64 4, .int .i64 5, .bool true, .slice B 1 d, .slice none 0 0, .slice none 0 0, .slice none 0 0, .int .i64 0, .slice none 0 0, .slice none 0 0, .slice none 0 0, .slice none 0 0, .int .i64 0] 39)
  have hb2 := Box.new (w.alloc (.cells #[.int .i64 1, .int .i64 1, .int .i64 2, .int .i64 3, .int .i64 4, .int .i64 5, .bool true, .slice A 1 c, .slice none 0 0, .slice none 0 0, .slice none 0 0, .int .i64 0, .slice none 0 0, .slice none 0 0, .slice none 0 0, .slice none 0 0, .int .i64 0] 39)) 39 #[.int .i64 1, .int .i64 1, .int .i64 2, .int .i64 3, .int .i64 4, .int .i64 5, .bool true, .slice B 1 d, .slice none 0 0, .slice none 0 0, .slice none 0 0, .int .i64 0, .slice none 0 0, .slice none 0 0, .slice none 0 0, .slice none 0 0, .int .i64 0]
  rw [World.size_alloc] at hb2
  clear ha hb
  go_enter Tryz.func12, Tryz.ntmps12
  go_wp2_with (fail)
  have HC := Lib.hid (fun (W : World) (hW : Kept (fun _ => False) ((w.alloc (.cells #[.int .i64 1, .int .i64 1, .int .i64 2, .int .i64 3, .int .i64 4, .int .i64 5, .bool true, .slice A 1 c, .slice none 0 0, .slice none 0 0, .slice none 0 0, .int .i64 0, .slice none 0 0, .slice none 0 0, .slice none 0 0, .slice none 0 0, .int .i64 0] 39)).alloc (.cells #[.int .i64 1, .int .i64 1, .int .i64 2, .int .i64 3, .int .i64 4, .int .i64 5, .bool true, .slice B 1 d, .slice none 0 0, .slice none 0 0, .slice none 0 0, .int .i64 0, .slice none 0 0, .slice none 0 0, .slice none 0 0, .slice none 0 0, .int .i64 0] 39)) W) => (show W.cell? ⟨w.heap.size, 8, none⟩ = some (.slice none 0 0) ∧ W.cell? ⟨w.heap.size + 1, 8, none⟩ = some (.slice none 0 0) ∧ W.cell? ⟨w.heap.size, 9, none⟩ = some (.slice none 0 0) ∧ W.cell? ⟨w.heap.size + 1, 9, none⟩ = some (.slice none 0 0) ∧ W.cell? ⟨w.heap.size, 10, none⟩ = some (.slice none 0 0) ∧ W.cell? ⟨w.heap.size + 1, 10, none⟩ = some (.slice none 0 0) ∧ W.cell? ⟨w.heap.size, 12, none⟩ = some (.slice none 0 0) ∧ W.cell? ⟨w.heap.size + 1, 12, none⟩ = some (.slice none 0 0) ∧ W.cell? ⟨w.heap.size, 13, none⟩ = some (.slice none 0 0) ∧ W.cell? ⟨w.heap.size + 1, 13, none⟩ = some (.slice none 0 0) ∧ W.cell? ⟨w.heap.size, 14, none⟩ = some (.slice none 0 0) ∧ W.cell? ⟨w.heap.size + 1, 14, none⟩ = some (.slice none 0 0) ∧ W.cell? ⟨w.heap.size, 15, none⟩ = some (.slice none 0 0) ∧ W.cell? ⟨w.heap.size + 1, 15, none⟩ = some (.slice none 0 0) ∧ W.cell? ⟨w.heap.size, 11, none⟩ = some (.int .i64 0) ∧ W.cell? ⟨w.heap.size + 1, 11, none⟩ = some (.int .i64 0) ∧ W.cell? ⟨w.heap.size, 16, none⟩ = some (.int .i64 0) ∧ W.cell? ⟨w.heap.size + 1, 16, none⟩ = some (.int .i64 0) from
    ⟨((hb1.kept hW id).cell 8).trans rfl, ((hb2.kept hW id).cell 8).trans rfl, ((hb1.kept hW id).cell 9).trans rfl, ((hb2.kept hW id).cell 9).trans rfl, ((hb1.kept hW id).cell 10).trans rfl, ((hb2.kept hW id).cell 10).trans rfl, ((hb1.kept hW id).cell 12).trans rfl, ((hb2.kept hW id).cell 12).trans rfl, ((hb1.kept hW id).cell 13).trans rfl, ((hb2.kept hW id).cell 13).trans rfl, ((hb1.kept hW id).cell 14).trans rfl, ((hb2.kept hW id).cell 14).trans rfl, ((hb1.kept hW id).cell 15).trans rfl, ((hb2.kept hW id).cell 15).trans rfl, ((hb1.kept hW id).cell 11).trans rfl, ((hb2.kept hW id).cell 11).trans rfl, ((hb1.kept hW id).cell 16).trans rfl, ((hb2.kept hW id).cell 16).trans rfl⟩))
  refine (HV.out _ hk).mono ?_
  unfold SamePost
  rintro r w2 ⟨rfl, hk2⟩
  have HK2 := Lib.hid hk2
  have HKA := Lib.hid hk
  clear hk2 hb1 hb2 hk HV
  obtain ⟨x8, y8, x9, y9, x10, y10, x12, y12, x13, y13, x14, y14, x15, y15, x11, y11, x16, y16⟩ := HC.out w2 HK2.out
  go_wp2_with (fail)
  refine (ops10_nil _).mono ?_
  unfold SamePost
  rintro r w3 ⟨rfl, hk3⟩
  have HK3 := Lib.hid (HK2.out.trans hk3 fun _ _ e => e)
  clear hk3 x8 y8 x9 y9 x10 y10 x12 y12 x13 y13 x14 y14 x15 y15 x11 y11 x16 y16 HK2
  obtain ⟨x8, y8, x9, y9, x10, y10, x12, y12, x13, y13, x14, y14, x15, y15, x11, y11, x16, y16⟩ := HC.out w3 HK3.out
  go_wp2_with (fail)
  refine (show Calls Tryz.prog 46 #[.agg imZ, .agg imZ] _ _ from images10_zero _).mono ?_
  unfold SamePost
  rintro r w4 ⟨rfl, hk4⟩
  have HK4 := Lib.hid (HKA.out.trans (HK3.out.trans hk4 fun _ _ e => e) fun _ _ e => e)
  clear hk4 x8 y8 x9 y9 x10 y10 x12 y12 x13 y13 x14 y14 x15 y15 x11 y11 x16 y16 HK3 HC HKA
  go_wp2_with (fail)
  go_ret
  exact ⟨rfl, HK4.out⟩
end Go.Proofs.YtoeipjhdpeibpaaGreat
