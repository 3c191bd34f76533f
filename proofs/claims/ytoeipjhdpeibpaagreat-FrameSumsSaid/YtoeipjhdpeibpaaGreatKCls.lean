/- What frame.Check asks, at the example frame: nothing is wrong. Conditions: the frame lies in a box, its one Dot in memory. -/
import Derived.Test.YtoeipjhdpeibpaaGreatKRSum
import Derived.Test.YtoeipjhdpeibpaaGreatVCheck
import Derived.Test.YtoeipjhdpeibpaaGreatLMem
import Derived.Lib.SliceRun
namespace Go.Proofs.YtoeipjhdpeibpaaGreat
open Go Go.RowKit

def exC (A : Option Addr) (c : Nat) : Array Value := #[.int .i64 1, .int .i64 1, .int .i64 2, .int .i64 3, .int .i64 4, .int .i64 5, .bool true, .slice A 1 c, .slice none 0 0, .slice none 0 0, .slice none 0 0, .int .i64 0, .slice none 0 0, .slice none 0 0, .slice none 0 0, .slice none 0 0, .int .i64 0]
def frZ : Array Value := #[.int .i64 0, .int .i64 0, .int .i64 0, .int .i64 0, .int .i64 0, .int .i64 0, .bool false, .slice none 0 0, .slice none 0 0, .slice none 0 0, .slice none 0 0, .int .i64 0, .slice none 0 0, .slice none 0 0, .slice none 0 0, .slice none 0 0, .int .i64 0]
def imZ : Array Value := #[.slice none 0 0, .slice none 0 0, .int .i64 0, .slice none 0 0, .slice none 0 0, .slice none 0 0, .slice none 0 0, .int .i64 0]
def OkPost (w : World) (r : Ending) (w' : World) : Prop := r = .returned (.int .i64 0) ∧ Kept (fun _ => False) w w'

theorem unless_ok (e : Int) (w : World) : Calls Tryz.prog 22 #[.bool true, .int .i64 e] w (fun r w' => r = .returned (.int .i64 0) ∧ w' = w) := by
  go_enter Tryz.func22, Tryz.ntmps22
  go_wp2_with (fail)
  go_ret
  exact ⟨rfl, rfl⟩
theorem unless_no (e : Int) (w : World) : Calls Tryz.prog 22 #[.bool false, .int .i64 e] w (fun r w' => r = .returned (.int .i64 e) ∧ w' = w) := by
  go_enter Tryz.func22, Tryz.ntmps22
  go_wp2_with (fail)
  go_ret
  exact ⟨rfl, rfl⟩
theorem site_ok (n : Int) (h1 : 1 ≤ n) (h2 : n ≤ 16) (w : World) : Calls Tryz.prog 29 #[.int .i64 n] w (fun r w' => r = .returned (.bool true) ∧ w' = w) := by
  have h3 : n ≥ 1 := h1
  go_enter Tryz.func29, Tryz.ntmps29
  go_wp2_with (fail)
  go_ret
  exact ⟨by simp, rfl⟩
theorem within_ok (n m : Int) (h1 : 0 ≤ n) (h2 : n ≤ m) (w : World) : Calls Tryz.prog 31 #[.int .i64 n, .int .i64 m] w (fun r w' => r = .returned (.bool true) ∧ w' = w) := by
  have h3 : n ≥ 0 := h1
  go_enter Tryz.func31, Tryz.ntmps31
  go_wp2_with (fail)
  go_ret
  exact ⟨by simp, rfl⟩

set_option maxRecDepth 100000 in
set_option maxHeartbeats 1600000 in
theorem ck1 (A : Option Addr) (c g : Nat) (w : World) (hb : Box w g 39 (exC A c)) : Calls Tryz.prog 27 #[.pointer (some ⟨g, 0, none⟩)] w (OkPost w) := by
  have x0 : w.cell? ⟨g, 0, none⟩ = some (.int .i64 1) := (hb.cell 0).trans rfl
  clear hb
  go_enter Tryz.func27, Tryz.ntmps27
  go_wp2_with (fail)
  refine (unless_ok _ _).mono ?_
  rintro r w1 ⟨rfl, rfl⟩
  go_wp2_with (fail)
  go_ret
  exact ⟨rfl, Kept.refl _ _⟩

set_option maxRecDepth 100000 in
set_option maxHeartbeats 1600000 in
theorem ck2 (A : Option Addr) (c g : Nat) (w : World) (hb : Box w g 39 (exC A c)) : Calls Tryz.prog 28 #[.pointer (some ⟨g, 0, none⟩)] w (OkPost w) := by
  have x1 : w.cell? ⟨g, 1, none⟩ = some (.int .i64 1) := (hb.cell 1).trans rfl
  have x2 : w.cell? ⟨g, 2, none⟩ = some (.int .i64 2) := (hb.cell 2).trans rfl
  clear hb
  go_enter Tryz.func28, Tryz.ntmps28
  go_wp2_with (fail)
  refine (site_ok _ (by decide) (by decide) _).mono ?_
  rintro r w1 ⟨rfl, rfl⟩
  go_wp2_with (fail)
  refine (site_ok _ (by decide) (by decide) _).mono ?_
  rintro r w1 ⟨rfl, rfl⟩
  go_wp2_with (fail)
  refine (unless_ok _ _).mono ?_
  rintro r w1 ⟨rfl, rfl⟩
  go_wp2_with (fail)
  go_ret
  exact ⟨rfl, Kept.refl _ _⟩

set_option maxRecDepth 100000 in
set_option maxHeartbeats 1600000 in
theorem ck3 (A : Option Addr) (c g : Nat) (w : World) (hb : Box w g 39 (exC A c)) : Calls Tryz.prog 30 #[.pointer (some ⟨g, 0, none⟩)] w (OkPost w) := by
  have x3 : w.cell? ⟨g, 3, none⟩ = some (.int .i64 3) := (hb.cell 3).trans rfl
  have x4 : w.cell? ⟨g, 4, none⟩ = some (.int .i64 4) := (hb.cell 4).trans rfl
  have x5 : w.cell? ⟨g, 5, none⟩ = some (.int .i64 5) := (hb.cell 5).trans rfl
  clear hb
  go_enter Tryz.func30, Tryz.ntmps30
  go_wp2_with (fail)
  refine (within_ok _ _ (by decide) (by decide) _).mono ?_
  rintro r w1 ⟨rfl, rfl⟩
  go_wp2_with (fail)
  refine (within_ok _ _ (by decide) (by decide) _).mono ?_
  rintro r w1 ⟨rfl, rfl⟩
  go_wp2_with (fail)
  refine (within_ok _ _ (by decide) (by decide) _).mono ?_
  rintro r w1 ⟨rfl, rfl⟩
  go_wp2_with (fail)
  refine (unless_ok _ _).mono ?_
  rintro r w1 ⟨rfl, rfl⟩
  go_wp2_with (fail)
  go_ret
  exact ⟨rfl, Kept.refl _ _⟩

set_option maxRecDepth 100000 in
set_option maxHeartbeats 1600000 in
theorem ck4 (A : Option Addr) (c g : Nat) (w : World) (hb : Box w g 39 (exC A c)) (hd : DotsAt w A [⟨1, 7⟩]) : Calls Tryz.prog 32 #[.pointer (some ⟨g, 0, none⟩)] w (OkPost w) := by
  have x7 : w.cell? ⟨g, 7, none⟩ = some (.slice A 1 c) := (hb.cell 7).trans rfl
  have HC := Lib.hid (Check_any A [⟨1, 7⟩] c w hd (by decide))
  clear hb hd
  go_enter Tryz.func32, Tryz.ntmps32
  go_wp2_with (fail)
  refine HC.out.mono ?_
  rintro r w1 ⟨rfl, hk⟩
  have HK := Lib.hid hk
  clear hk
  go_wp2_with (fail)
  go_ret
  exact ⟨rfl, HK.out⟩

set_option maxRecDepth 100000 in
set_option maxHeartbeats 1600000 in
theorem ck6 (A : Option Addr) (c g : Nat) (w : World) (hb : Box w g 39 (exC A c)) : Calls Tryz.prog 36 #[.pointer (some ⟨g, 0, none⟩)] w (OkPost w) := by
  have x8 : w.cell? ⟨g, 8, none⟩ = some (.slice none 0 0) := (hb.cell 8).trans rfl
  clear hb
  go_enter Tryz.func36, Tryz.ntmps36
  go_wp2_with (fail)
  refine (unless_ok _ _).mono ?_
  rintro r w1 ⟨rfl, rfl⟩
  go_wp2_with (fail)
  go_ret
  exact ⟨rfl, Kept.refl _ _⟩

set_option maxRecDepth 100000 in
set_option maxHeartbeats 1600000 in
theorem ck7 (A : Option Addr) (c g : Nat) (w : World) (hb : Box w g 39 (exC A c)) : Calls Tryz.prog 37 #[.pointer (some ⟨g, 0, none⟩)] w (OkPost w) := by
  have x8 : w.cell? ⟨g, 8, none⟩ = some (.slice none 0 0) := (hb.cell 8).trans rfl
  clear hb
  go_enter Tryz.func37, Tryz.ntmps37
  go_wp2_with (fail)
  go_loopw [8] (fun i wr => i = .int .i64 0 ∧ wr = w) (fun _ _ => 0)
  case atStart => exact ⟨rfl, rfl⟩
  case round =>
    obtain ⟨rfl, rfl⟩ := hrel
    go_wp2_with (fail)
    go_ret
    exact ⟨rfl, Kept.refl _ _⟩


set_option maxRecDepth 100000 in
set_option maxHeartbeats 1600000 in
theorem bare_zero (w : World) : Calls Tryz.prog 35 #[.agg imZ] w (fun r w' => r = .returned (.bool true) ∧ Kept (fun _ => False) w w') := by
  unfold imZ
  go_enter Tryz.func35, Tryz.ntmps35
  go_upto_region 1 with (fail)
  have hb := Box.new w 37 #[.slice none 0 0, .slice none 0 0, .int .i64 0, .slice none 0 0, .slice none 0 0, .slice none 0 0, .slice none 0 0, .int .i64 0]
  have hk := (Kept.refl (fun _ => False) w).alloc (.cells #[.slice none 0 0, .slice none 0 0, .int .i64 0, .slice none 0 0, .slice none 0 0, .slice none 0 0, .slice none 0 0, .int .i64 0] 37)
  generalize w.alloc (.cells #[.slice none 0 0, .slice none 0 0, .int .i64 0, .slice none 0 0, .slice none 0 0, .slice none 0 0, .slice none 0 0, .int .i64 0] 37) = w1 at hb hk ⊢
  have x0 : w1.cell? ⟨w.heap.size, 0, none⟩ = some (.slice none 0 0) := (hb.cell 0).trans rfl
  have x1 : w1.cell? ⟨w.heap.size, 1, none⟩ = some (.slice none 0 0) := (hb.cell 1).trans rfl
  have x2 : w1.cell? ⟨w.heap.size, 2, none⟩ = some (.int .i64 0) := (hb.cell 2).trans rfl
  have x3 : w1.cell? ⟨w.heap.size, 3, none⟩ = some (.slice none 0 0) := (hb.cell 3).trans rfl
  have x4 : w1.cell? ⟨w.heap.size, 4, none⟩ = some (.slice none 0 0) := (hb.cell 4).trans rfl
  have x5 : w1.cell? ⟨w.heap.size, 5, none⟩ = some (.slice none 0 0) := (hb.cell 5).trans rfl
  have x6 : w1.cell? ⟨w.heap.size, 6, none⟩ = some (.slice none 0 0) := (hb.cell 6).trans rfl
  have x7 : w1.cell? ⟨w.heap.size, 7, none⟩ = some (.int .i64 0) := (hb.cell 7).trans rfl
  go_upto_region 2 with (fail)
  have hb2 := Box.new w1 107 #[.int .i64 0, .int .i64 0, .int .i64 0, .int .i64 0, .int .i64 0, .int .i64 0]
  have ha2 := hb.alloc (.cells #[.int .i64 0, .int .i64 0, .int .i64 0, .int .i64 0, .int .i64 0, .int .i64 0] 107)
  have hk2 := hk.alloc (.cells #[.int .i64 0, .int .i64 0, .int .i64 0, .int .i64 0, .int .i64 0, .int .i64 0] 107)
  generalize w1.alloc (.cells #[.int .i64 0, .int .i64 0, .int .i64 0, .int .i64 0, .int .i64 0, .int .i64 0] 107) = w2 at hb2 ha2 hk2 ⊢
  generalize w1.heap.size = b1 at hb2 ⊢
  have y0 : w2.cell? ⟨b1, 0, none⟩ = some (.int .i64 0) := (hb2.cell 0).trans rfl
  have y1 : w2.cell? ⟨b1, 1, none⟩ = some (.int .i64 0) := (hb2.cell 1).trans rfl
  have y2 : w2.cell? ⟨b1, 2, none⟩ = some (.int .i64 0) := (hb2.cell 2).trans rfl
  have y3 : w2.cell? ⟨b1, 3, none⟩ = some (.int .i64 0) := (hb2.cell 3).trans rfl
  have y4 : w2.cell? ⟨b1, 4, none⟩ = some (.int .i64 0) := (hb2.cell 4).trans rfl
  have y5 : w2.cell? ⟨b1, 5, none⟩ = some (.int .i64 0) := (hb2.cell 5).trans rfl
  clear hb hk x0 x1 x2 x3 x4 x5 x6 x7
  go_upto_region 3 with (fail)
  have hb3 := Box.new w2 107 #[.int .i64 0, .int .i64 0, .int .i64 0, .int .i64 0, .int .i64 0, .int .i64 0]
  have ha3 := ha2.alloc (.cells #[.int .i64 0, .int .i64 0, .int .i64 0, .int .i64 0, .int .i64 0, .int .i64 0] 107)
  have hc3 := hb2.alloc (.cells #[.int .i64 0, .int .i64 0, .int .i64 0, .int .i64 0, .int .i64 0, .int .i64 0] 107)
  have hk3 := hk2.alloc (.cells #[.int .i64 0, .int .i64 0, .int .i64 0, .int .i64 0, .int .i64 0, .int .i64 0] 107)
  have hne : b1 ≠ w2.heap.size := by have := hb2.lt; omega
  have hne0 : w.heap.size ≠ w2.heap.size := by have := ha2.lt; omega
  have hle : w.heap.size ≤ w2.heap.size := hk2.size
  generalize w2.alloc (.cells #[.int .i64 0, .int .i64 0, .int .i64 0, .int .i64 0, .int .i64 0, .int .i64 0] 107) = w3 at hb3 ha3 hc3 hk3 ⊢
  generalize w2.heap.size = b2 at hb3 hne hne0 hle ⊢
  have hclr : ∀ ty, (Builtin.clear_ #[35] ty #[.slice (some ⟨b2, 0, none⟩) 6 6]).run Tryz.prog w3 = .ok (.tuple #[]) (w3.setCells b2 0 (List.replicate 6 (.int .i64 0))) := fun ty => Lib.run_clear_slice w3 35 3 ty (.int .i64 0) Tryz.underlying35 (fun w => by kernel_rfl) rfl rfl b2 0 6 6 (by decide) (fun j hj => by rw [Nat.zero_add, hb3.cell j, Array.getElem?_eq_getElem (by simpa using hj)]; rfl) (fun j hj => by rw [Nat.zero_add]; exact hb3.frozen j)
  have hb4 : Box (w3.setCells b2 0 (List.replicate 6 (.int .i64 0))) b2 107 #[.int .i64 0, .int .i64 0, .int .i64 0, .int .i64 0, .int .i64 0, .int .i64 0] := (((((hb3.set 0 _).set 1 _).set 2 _).set 3 _).set 4 _).set 5 _
  have hc4 : Box (w3.setCells b2 0 (List.replicate 6 (.int .i64 0))) b1 107 #[.int .i64 0, .int .i64 0, .int .i64 0, .int .i64 0, .int .i64 0, .int .i64 0] := (((((hc3.far (p := ⟨b2, 0, none⟩) hne _).far (p := ⟨b2, 1, none⟩) hne _).far (p := ⟨b2, 2, none⟩) hne _).far (p := ⟨b2, 3, none⟩) hne _).far (p := ⟨b2, 4, none⟩) hne _).far (p := ⟨b2, 5, none⟩) hne _
  have ha4 : Box (w3.setCells b2 0 (List.replicate 6 (.int .i64 0))) w.heap.size 37 #[.slice none 0 0, .slice none 0 0, .int .i64 0, .slice none 0 0, .slice none 0 0, .slice none 0 0, .slice none 0 0, .int .i64 0] := (((((ha3.far (p := ⟨b2, 0, none⟩) hne0 _).far (p := ⟨b2, 1, none⟩) hne0 _).far (p := ⟨b2, 2, none⟩) hne0 _).far (p := ⟨b2, 3, none⟩) hne0 _).far (p := ⟨b2, 4, none⟩) hne0 _).far (p := ⟨b2, 5, none⟩) hne0 _
  have hk4 : Kept (fun _ => False) w (w3.setCells b2 0 (List.replicate 6 (.int .i64 0))) := (((((hk3.at 0 _ (.inr hle)).at 1 _ (.inr hle)).at 2 _ (.inr hle)).at 3 _ (.inr hle)).at 4 _ (.inr hle)).at 5 _ (.inr hle)
  generalize w3.setCells b2 0 (List.replicate 6 (.int .i64 0)) = w4 at hclr hb4 hc4 ha4 hk4
  clear hb3 ha3 hc3 hk3 hb2 ha2 hk2 hne hne0 hle y0 y1 y2 y3 y4 y5
  go_upto_region 4 with (fail)
  have y0 : w4.cell? ⟨b1, 0, none⟩ = some (.int .i64 0) := (hc4.cell 0).trans rfl
  have z0 : w4.cell? ⟨b2, 0, none⟩ = some (.int .i64 0) := (hb4.cell 0).trans rfl
  have y1 : w4.cell? ⟨b1, 1, none⟩ = some (.int .i64 0) := (hc4.cell 1).trans rfl
  have z1 : w4.cell? ⟨b2, 1, none⟩ = some (.int .i64 0) := (hb4.cell 1).trans rfl
  have y2 : w4.cell? ⟨b1, 2, none⟩ = some (.int .i64 0) := (hc4.cell 2).trans rfl
  have z2 : w4.cell? ⟨b2, 2, none⟩ = some (.int .i64 0) := (hb4.cell 2).trans rfl
  have y3 : w4.cell? ⟨b1, 3, none⟩ = some (.int .i64 0) := (hc4.cell 3).trans rfl
  have z3 : w4.cell? ⟨b2, 3, none⟩ = some (.int .i64 0) := (hb4.cell 3).trans rfl
  have y4 : w4.cell? ⟨b1, 4, none⟩ = some (.int .i64 0) := (hc4.cell 4).trans rfl
  have z4 : w4.cell? ⟨b2, 4, none⟩ = some (.int .i64 0) := (hb4.cell 4).trans rfl
  have y5 : w4.cell? ⟨b1, 5, none⟩ = some (.int .i64 0) := (hc4.cell 5).trans rfl
  have z5 : w4.cell? ⟨b2, 5, none⟩ = some (.int .i64 0) := (hb4.cell 5).trans rfl
  have x2 : w4.cell? ⟨w.heap.size, 2, none⟩ = some (.int .i64 0) := (ha4.cell 2).trans rfl
  have x7 : w4.cell? ⟨w.heap.size, 7, none⟩ = some (.int .i64 0) := (ha4.cell 7).trans rfl
  clear hclr hb4 hc4 ha4
  have hq6 : ∀ W : World, (Op.equalIn 10000 107 (.agg #[.int .i64 0, .int .i64 0, .int .i64 0, .int .i64 0, .int .i64 0, .int .i64 0]) (.agg #[.int .i64 0, .int .i64 0, .int .i64 0, .int .i64 0, .int .i64 0, .int .i64 0])).run Tryz.prog W = .ok true W := fun W => by kernel_rfl
  have hg6 : Tryz.prog.eqGuardType Tryz.prog.depth 107 = false := by kernel_rfl
  go_wp2_with (fail)
  go_ret
  exact ⟨rfl, hk4⟩
set_option maxRecDepth 100000 in
set_option maxHeartbeats 1600000 in
theorem ck5 (A : Option Addr) (c g : Nat) (w : World) (hb : Box w g 39 (exC A c)) : Calls Tryz.prog 34 #[.pointer (some ⟨g, 0, none⟩)] w (OkPost w) := by
  have x9 : w.cell? ⟨g, 9, none⟩ = some (.slice none 0 0) := (hb.cell 9).trans rfl
  have x10 : w.cell? ⟨g, 10, none⟩ = some (.slice none 0 0) := (hb.cell 10).trans rfl
  have x11 : w.cell? ⟨g, 11, none⟩ = some (.int .i64 0) := (hb.cell 11).trans rfl
  have x12 : w.cell? ⟨g, 12, none⟩ = some (.slice none 0 0) := (hb.cell 12).trans rfl
  have x13 : w.cell? ⟨g, 13, none⟩ = some (.slice none 0 0) := (hb.cell 13).trans rfl
  have x14 : w.cell? ⟨g, 14, none⟩ = some (.slice none 0 0) := (hb.cell 14).trans rfl
  have x15 : w.cell? ⟨g, 15, none⟩ = some (.slice none 0 0) := (hb.cell 15).trans rfl
  have x16 : w.cell? ⟨g, 16, none⟩ = some (.int .i64 0) := (hb.cell 16).trans rfl
  have aM := Tryz.isAgg37
  have zM := Tryz.sizeOf37
  clear hb
  go_enter Tryz.func34, Tryz.ntmps34
  go_wp2_with (fail)
  refine (bare_zero w).mono ?_
  rintro r w1 ⟨rfl, hk⟩
  have HK := Lib.hid hk
  clear hk
  go_wp2_with (fail)
  refine (unless_ok _ _).mono ?_
  rintro r w2 ⟨rfl, rfl⟩
  go_wp2_with (fail)
  go_ret
  exact ⟨rfl, HK.out⟩
end Go.Proofs.YtoeipjhdpeibpaaGreat
