/- Events as data; the walks of fair's end and of the comparison that Windows sorts by. No condition. -/
import Derived.Test.YtkekhnohehhljaaEMrg
import Derived.Test.YtkekhnohehhljaaRows
import Derived.Test.YtkekhnohehhljaaKit
import Derived.Shelf.SlSortCmp.KitK
import Derived.Shelf.SlicesG.Cmp
namespace Go.Proofs.Ytkekhnohehhljaa
open Go Go.Shelf Go.RowKit Go.Lib Go.Sort

structure Ev where
  step : Int
  kind : Int
  copy : Int
  src : Int
  dst : Int
  sent : Int
  bad : Bool
deriving Inhabited
def Ev.cs (x : Ev) : List Value := [.int .i64 x.step, .int .i64 x.kind, .int .i64 x.copy, .int .i64 x.src, .int .i64 x.dst, .int .i64 x.sent, .bool x.bad]
def Ev.key (x : Ev) : Int := max x.step x.sent
theorem Ev.cs_len (x : Ev) : x.cs.length = 7 := rfl
theorem Ev.cs_one (x : Ev) : ∀ v ∈ x.cs, v.oneCell' = true := by
  intro v hv
  simp only [Ev.cs, List.mem_cons, List.not_mem_nil, or_false] at hv
  rcases hv with rfl | rfl | rfl | rfl | rfl | rfl | rfl <;> rfl
def cfE (x y : Ev) : Int := Lib.compareInt x.key y.key
theorem end_any (x : Ev) (W : World) : Calls Try.prog 21 #[.agg #[.int .i64 x.step, .int .i64 x.kind, .int .i64 x.copy, .int .i64 x.src, .int .i64 x.dst, .int .i64 x.sent, .bool x.bad]] W fun e w' => e = .returned (.int .i64 x.key) ∧ ∃ q os', w' = grow (W.drewN q) os' := by
  go_enter Try.func21, Try.ntmps21
  go_wp2_with (fail)
  go_ret
  exact ⟨rfl, 0, _, by rw [alloc_eq_grow]; rfl⟩
theorem isNaN_any (x : Int) (W : World) : Calls Try.prog 26 #[.int .i64 x] W fun e w' => e = .returned (.bool false) ∧ w' = W := by
  have hx : (x != x) = false := by simp
  go_enter Try.func26, Try.ntmps26
  go_wp2_with (fail)
  go_ret
  exact ⟨rfl, rfl⟩
theorem Compare_any (x y : Int) (W : World) : Calls Try.prog 20 #[.int .i64 x, .int .i64 y] W fun e w' => e = .returned (.int .i64 (Lib.compareInt x y)) ∧ w' = W := by
  unfold Lib.compareInt
  by_cases h1 : x < y
  · rw [if_pos h1]
    go_enter Try.func20, Try.ntmps20
    go_wp2_with (fail)
    refine (isNaN_any _ _).mono ?_
    rintro e w' ⟨rfl, rfl⟩
    go_wp2_with (fail)
    refine (isNaN_any _ _).mono ?_
    rintro e w' ⟨rfl, rfl⟩
    go_wp2_with (fail)
    go_ret
    exact ⟨rfl, rfl⟩
  · by_cases h2 : y < x
    · rw [if_neg h1, if_pos h2]
      go_enter Try.func20, Try.ntmps20
      go_wp2_with (fail)
      refine (isNaN_any _ _).mono ?_
      rintro e w' ⟨rfl, rfl⟩
      go_wp2_with (fail)
      refine (isNaN_any _ _).mono ?_
      rintro e w' ⟨rfl, rfl⟩
      go_wp2_with (fail)
      go_ret
      exact ⟨rfl, rfl⟩
    · rw [if_neg h1, if_neg h2]
      go_enter Try.func20, Try.ntmps20
      go_wp2_with (fail)
      refine (isNaN_any _ _).mono ?_
      rintro e w' ⟨rfl, rfl⟩
      go_wp2_with (fail)
      refine (isNaN_any _ _).mono ?_
      rintro e w' ⟨rfl, rfl⟩
      go_wp2_with (fail)
      go_ret
      exact ⟨rfl, rfl⟩
theorem box_load {W : World} {g : Nat} {T : TypeId} (x : Ev) (h : Box W g T #[.int .i64 x.step, .int .i64 x.kind, .int .i64 x.copy, .int .i64 x.src, .int .i64 x.dst, .int .i64 x.sent, .bool x.bad]) (n : Nat) (os : Array Obj) :
    Sem.run Try.prog (loadCellsFrom ⟨g, 0, none⟩ 0 7 #[]) (grow (W.drewN n) os) = .ok #[.int .i64 x.step, .int .i64 x.kind, .int .i64 x.copy, .int .i64 x.src, .int .i64 x.dst, .int .i64 x.sent, .bool x.bad] (grow (W.drewN n) os) :=
  run_loadCellsFrom_list Try.prog _ _ x.cs 7 rfl fun j v hj => by
    have e : (⟨g, 0, none⟩ : Addr).add j = ⟨g, j, none⟩ := by unfold Addr.add; split <;> simp_all
    rw [e]
    refine cell_grown (by exact h.lt) ?_ n os
    rw [h.cell, ← hj]
    show (x.cs.toArray)[j]? = _
    simp
set_option maxHeartbeats 3200000 in
set_option maxRecDepth 100000 in
theorem cmp_any (x y : Ev) (W : World) : Calls Try.prog 19 #[.agg #[.int .i64 x.step, .int .i64 x.kind, .int .i64 x.copy, .int .i64 x.src, .int .i64 x.dst, .int .i64 x.sent, .bool x.bad], .agg #[.int .i64 y.step, .int .i64 y.kind, .int .i64 y.copy, .int .i64 y.src, .int .i64 y.dst, .int .i64 y.sent, .bool y.bad]] W fun e w' => e = .returned (.int .i64 (cfE x y)) ∧ ∃ q os', w' = grow (W.drewN q) os' := by
  obtain ⟨r, hr⟩ : ∃ r, cfE x y = r := ⟨_, rfl⟩
  have hc : ∀ W, Calls Try.prog 20 #[.int .i64 x.key, .int .i64 y.key] W fun e w' => e = .returned (.int .i64 r) ∧ w' = W := fun W => by rw [← hr]; exact Compare_any _ _ W
  have h1 := fun W => end_any x W
  have h2 := fun W => end_any y W
  rw [hr]
  have HC := Lib.hid hc
  have H1 := Lib.hid h1
  have H2 := Lib.hid h2
  clear hr hc h1 h2
  obtain ⟨kx, hkx⟩ : ∃ k, x.key = k := ⟨_, rfl⟩
  obtain ⟨ky, hky⟩ : ∃ k, y.key = k := ⟨_, rfl⟩
  rw [hkx] at H1 HC
  rw [hky] at H2 HC
  clear hkx hky
  go_enter Try.func19, Try.ntmps19
  go_upto_region 1 with (fail)
  have aE := Try.isAgg35
  have zE := Try.sizeOf35
  have mixed : Try.prog.follows .mixedOrders = true := by kernel_rfl
  have hb1 := (Box.new W 35 #[.int .i64 x.step, .int .i64 x.kind, .int .i64 x.copy, .int .i64 x.src, .int .i64 x.dst, .int .i64 x.sent, .bool x.bad]).alloc (.cells #[.int .i64 y.step, .int .i64 y.kind, .int .i64 y.copy, .int .i64 y.src, .int .i64 y.dst, .int .i64 y.sent, .bool y.bad] 35)
  have hb2 := Box.new (W.alloc (.cells #[.int .i64 x.step, .int .i64 x.kind, .int .i64 x.copy, .int .i64 x.src, .int .i64 x.dst, .int .i64 x.sent, .bool x.bad] 35)) 35 #[.int .i64 y.step, .int .i64 y.kind, .int .i64 y.copy, .int .i64 y.src, .int .i64 y.dst, .int .i64 y.sent, .bool y.bad]
  rw [show (W.alloc (.cells #[.int .i64 x.step, .int .i64 x.kind, .int .i64 x.copy, .int .i64 x.src, .int .i64 x.dst, .int .i64 x.sent, .bool x.bad] 35)).heap.size = W.heap.size + 1 by simp] at hb2
  have x0 := fun n os => cell_grown (w := _) (a := ⟨W.heap.size, 0, none⟩) (by exact hb1.lt) ((hb1.cell 0).trans rfl) n os
  have x1 := fun n os => cell_grown (w := _) (a := ⟨W.heap.size, 1, none⟩) (by exact hb1.lt) ((hb1.cell 1).trans rfl) n os
  have x2 := fun n os => cell_grown (w := _) (a := ⟨W.heap.size, 2, none⟩) (by exact hb1.lt) ((hb1.cell 2).trans rfl) n os
  have x3 := fun n os => cell_grown (w := _) (a := ⟨W.heap.size, 3, none⟩) (by exact hb1.lt) ((hb1.cell 3).trans rfl) n os
  have x4 := fun n os => cell_grown (w := _) (a := ⟨W.heap.size, 4, none⟩) (by exact hb1.lt) ((hb1.cell 4).trans rfl) n os
  have x5 := fun n os => cell_grown (w := _) (a := ⟨W.heap.size, 5, none⟩) (by exact hb1.lt) ((hb1.cell 5).trans rfl) n os
  have x6 := fun n os => cell_grown (w := _) (a := ⟨W.heap.size, 6, none⟩) (by exact hb1.lt) ((hb1.cell 6).trans rfl) n os
  have y0 := fun n os => cell_grown (w := _) (a := ⟨W.heap.size + 1, 0, none⟩) (by exact hb2.lt) ((hb2.cell 0).trans rfl) n os
  have y1 := fun n os => cell_grown (w := _) (a := ⟨W.heap.size + 1, 1, none⟩) (by exact hb2.lt) ((hb2.cell 1).trans rfl) n os
  have y2 := fun n os => cell_grown (w := _) (a := ⟨W.heap.size + 1, 2, none⟩) (by exact hb2.lt) ((hb2.cell 2).trans rfl) n os
  have y3 := fun n os => cell_grown (w := _) (a := ⟨W.heap.size + 1, 3, none⟩) (by exact hb2.lt) ((hb2.cell 3).trans rfl) n os
  have y4 := fun n os => cell_grown (w := _) (a := ⟨W.heap.size + 1, 4, none⟩) (by exact hb2.lt) ((hb2.cell 4).trans rfl) n os
  have y5 := fun n os => cell_grown (w := _) (a := ⟨W.heap.size + 1, 5, none⟩) (by exact hb2.lt) ((hb2.cell 5).trans rfl) n os
  have y6 := fun n os => cell_grown (w := _) (a := ⟨W.heap.size + 1, 6, none⟩) (by exact hb2.lt) ((hb2.cell 6).trans rfl) n os
  have HGR := Lib.hid (show ∀ n os, ∃ q os', grow (((W.alloc (.cells #[.int .i64 x.step, .int .i64 x.kind, .int .i64 x.copy, .int .i64 x.src, .int .i64 x.dst, .int .i64 x.sent, .bool x.bad] 35)).alloc (.cells #[.int .i64 y.step, .int .i64 y.kind, .int .i64 y.copy, .int .i64 y.src, .int .i64 y.dst, .int .i64 y.sent, .bool y.bad] 35)).drewN n) os = grow (W.drewN q) os' from fun n os => ⟨n, _, by rw [alloc_eq_grow, alloc_eq_grow, grow_grow]; show grow (grow (W.drewN n) _) os = _; rw [grow_grow]⟩)
  clear hb1 hb2
  generalize (W.alloc (.cells #[.int .i64 x.step, .int .i64 x.kind, .int .i64 x.copy, .int .i64 x.src, .int .i64 x.dst, .int .i64 x.sent, .bool x.bad] 35)).alloc _ = w0 at x0 x1 x2 x3 x4 x5 x6 y0 y1 y2 y3 y4 y5 y6 HGR ⊢
  go_quiet_grown (first | (go_at_call 21; first | refine Calls.grown_of (H1.out _) | refine Calls.grown_of (H2.out _)) | (go_at_call 20; refine Calls.grown_of ((HC.out _).mono fun e w' h => ⟨h.1, 0, #[], by rw [h.2, grow_empty]; rfl⟩)))
  go_wp2_with (fail)
  go_ret
  exact ⟨rfl, HGR.out _ _⟩
end Go.Proofs.Ytkekhnohehhljaa
