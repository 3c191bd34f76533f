/- The walks of cmp.Compare, cmp.Or, stamp.Compare. No condition. -/
import Derived.Test.YtoeipjhdpeibpaaGreatRRun
import Derived.StillTailTactics
namespace Go.Proofs.YtoeipjhdpeibpaaGreat
open Go Go.RowKit

set_option maxRecDepth 100000 in
theorem cmp_any (a b : Int) (w : World) : Calls Tryz.prog 90 #[.int .i64 a, .int .i64 b] w fun e w' => e = .returned (.int .i64 (cmpI a b)) ∧ w' = w := by
  unfold cmpI
  by_cases h1 : a < b
  · rw [if_pos h1]
    go_enter Tryz.func90, Tryz.ntmps90
    go_wp2
    go_ret
    exact ⟨rfl, rfl⟩
  · rw [if_neg h1]
    by_cases h2 : b < a
    · rw [if_pos h2]
      go_enter Tryz.func90, Tryz.ntmps90
      go_wp2
      go_ret
      exact ⟨rfl, rfl⟩
    · rw [if_neg h2]
      go_enter Tryz.func90, Tryz.ntmps90
      go_wp2
      go_ret
      exact ⟨rfl, rfl⟩

set_option maxRecDepth 100000 in
theorem or_any (a b : Int) (g : Nat) (w : World) (h0 : w.cell? ⟨g, 0, none⟩ = some (.int .i64 a)) (h1 : w.cell? ⟨g, 1, none⟩ = some (.int .i64 b)) :
    Calls Tryz.prog 89 #[.slice (some ⟨g, 0, none⟩) 2 2] w fun e w' => e = .returned (.int .i64 (if a ≠ 0 then a else b)) ∧ w' = w := by
  by_cases ha : a = 0
  · subst ha
    rw [if_neg (fun e => e rfl)]
    by_cases hb : b = 0
    · subst hb
      go_enter Tryz.func89, Tryz.ntmps89
      go_wp2
      go_loopw [8] (fun i wr => wr = w ∧ ∃ k : Nat, i = .int .i64 k ∧ k ≤ 2) (fun i _ => 2 - (intOf i).toNat)
      case atStart => exact ⟨rfl, 0, rfl, by omega⟩
      case round =>
        obtain ⟨rfl, k, rfl, hk⟩ := hrel
        rcases (by omega : k = 0 ∨ k = 1 ∨ k = 2) with rfl | rfl | rfl
        · go_wp2
          go_roundw
          case rel => exact ⟨trivial, 1, rfl, by omega⟩
          case measure => simp [intOf]
        · go_wp2
          go_roundw
          case rel => exact ⟨trivial, 2, rfl, by omega⟩
          case measure => simp [intOf]
        · go_wp2
          go_ret
          exact ⟨rfl, rfl⟩
    · go_enter Tryz.func89, Tryz.ntmps89
      go_wp2
      go_loopw [8] (fun i wr => wr = w ∧ ∃ k : Nat, i = .int .i64 k ∧ k ≤ 1) (fun i _ => 2 - (intOf i).toNat)
      case atStart => exact ⟨rfl, 0, rfl, by omega⟩
      case round =>
        obtain ⟨rfl, k, rfl, hk⟩ := hrel
        rcases (by omega : k = 0 ∨ k = 1) with rfl | rfl
        · go_wp2
          go_roundw
          case rel => exact ⟨trivial, 1, rfl, by omega⟩
          case measure => simp [intOf]
        · go_wp2
          go_ret
          exact ⟨rfl, rfl⟩
  · rw [if_pos ha]
    go_enter Tryz.func89, Tryz.ntmps89
    go_wp2
    go_loopw [8] (fun i wr => wr = w ∧ i = .int .i64 0) (fun i _ => 2 - (intOf i).toNat)
    case atStart => exact ⟨rfl, rfl⟩
    case round =>
      obtain ⟨rfl, rfl⟩ := hrel
      go_wp2
      go_ret
      exact ⟨rfl, rfl⟩

theorem cmp_is (f : Int → Int → Int) (hf : Hid (cmpI = f)) (a b : Int) (w : World) : Calls Tryz.prog 90 #[.int .i64 a, .int .i64 b] w fun e w' => e = .returned (.int .i64 (f a b)) ∧ w' = w := by
  rw [← hf.out]
  exact cmp_any a b w
theorem or_is (a b x : Int) (g : Nat) (w : World) (hx : Hid ((if a ≠ 0 then a else b) = x)) (h0 : w.cell? ⟨g, 0, none⟩ = some (.int .i64 a)) (h1 : w.cell? ⟨g, 1, none⟩ = some (.int .i64 b)) :
    Calls Tryz.prog 89 #[.slice (some ⟨g, 0, none⟩) 2 2] w fun e w' => e = .returned (.int .i64 x) ∧ w' = w := by
  rw [← hx.out]
  exact or_any a b g w h0 h1

set_option maxRecDepth 100000 in
set_option maxHeartbeats 800000 in
theorem Compare_any (a b : Idt) (w : World) : Calls Tryz.prog 86 #[idV a, idV b] w (IntPost w (cmpId a b)) := by
  obtain ⟨t, s⟩ := a
  obtain ⟨t', s'⟩ := b
  obtain ⟨x, hx⟩ : ∃ x, cmpId ⟨t, s⟩ ⟨t', s'⟩ = x := ⟨_, rfl⟩
  rw [hx]
  obtain ⟨f, hf⟩ : ∃ f, cmpI = f := ⟨_, rfl⟩
  have hx' : (if cmpI t t' ≠ 0 then cmpI t t' else cmpI s s') = x := hx
  rw [hf] at hx'
  have HF := Lib.hid hf
  have HX := Lib.hid hx'
  clear hx hx' hf
  unfold idV
  go_enter Tryz.func86, Tryz.ntmps86
  have hk : Kept (fun _ => False) w ((w.alloc (.cells #[.int .i64 t, .int .i64 s] 57)).alloc (.cells #[.int .i64 t', .int .i64 s'] 57)) := ((Kept.refl _ _).alloc _).alloc _
  have hb1 := (Box.new w 57 #[.int .i64 t, .int .i64 s]).alloc (.cells #[.int .i64 t', .int .i64 s'] 57)
  have hb2 := (Box.new (w.alloc (.cells #[.int .i64 t, .int .i64 s] 57)) 57 #[.int .i64 t', .int .i64 s']).at_eq (show _ = w.heap.size + 1 by simp)
  have HK := Lib.hid hk
  have HB1 := Lib.hid hb1
  have HB2 := Lib.hid hb2
  have hsz : ((w.alloc (.cells #[.int .i64 t, .int .i64 s] 57)).alloc (.cells #[.int .i64 t', .int .i64 s'] 57)).heap.size = w.heap.size + 2 := by simp
  clear hk hb1 hb2
  go_wp2_with (fail)
  generalize (w.alloc (.cells #[.int .i64 t, .int .i64 s] 57)).alloc (.cells #[.int .i64 t', .int .i64 s'] 57) = w2 at HK HB1 HB2 hsz ⊢
  have x0 : w2.cell? ⟨w.heap.size, 0, none⟩ = some (.int .i64 t) := HB1.out.cell 0
  have x1 : w2.cell? ⟨w.heap.size, 1, none⟩ = some (.int .i64 s) := HB1.out.cell 1
  have y0 : w2.cell? ⟨w.heap.size + 1, 0, none⟩ = some (.int .i64 t') := HB2.out.cell 0
  have y1 : w2.cell? ⟨w.heap.size + 1, 1, none⟩ = some (.int .i64 s') := HB2.out.cell 1
  go_still_tail 10, (by kernel_rfl)
  still_call (cmp_is f HF t t' _)
  repeat still_step
  still_call (cmp_is f HF s s' _)
  refine wpStill_nil ?_
  change wpList _ _ _ _ _ w2.drew
  have HK' := Lib.hid HK.out.drew
  have hsz' : w2.drew.heap.size = w.heap.size + 2 := hsz
  clear x0 x1 y0 y1 hsz HB1 HB2 HK
  generalize w2.drew = w3 at HK' hsz' ⊢
  have HB3 := Lib.hid (Box.new w3 3 #[.int .i64 (f t t'), .int .i64 (f s s')])
  have HK3 := Lib.hid (HK'.out.trans ((Kept.refl (fun _ => False) _).alloc (.cells #[.int .i64 (f t t'), .int .i64 (f s s')] 3)) fun _ _ e => e)
  rw [hsz'] at HB3
  go_wp2_with (fail)
  refine (or_is (f t t') (f s s') x (w.heap.size + 2) _ HX (HB3.out.cell 0) (HB3.out.cell 1)).mono ?_
  rintro e w4 ⟨rfl, rfl⟩
  go_wp2
  go_ret
  exact ⟨rfl, HK3.out⟩
end Go.Proofs.YtoeipjhdpeibpaaGreat
