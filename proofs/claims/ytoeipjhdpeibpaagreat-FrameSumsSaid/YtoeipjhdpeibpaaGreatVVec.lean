/- The walks of says.vector and of the reference's Of: the vector of a row. Condition: the row is one (17 numbers, none of place 0). -/
import Derived.Test.YtoeipjhdpeibpaaGreatVOf
namespace Go.Proofs.YtoeipjhdpeibpaaGreat
open Go.RowKit

theorem run_index_row (r : List Int) (hr : r.length = 17) (k : Nat) (hk : k < 17) (W : World) :
    (Instr.index 85 (.agg (rowV r)) (.int .i64 (k : Int))).run Tryz.prog W = .ok (.int .i64 (rg r k)) W := by
  have hg := rowV_get r k (by omega)
  have hi : (Tryz.prog.info? 3).map (fun i => (i.zero, i.size, i.bytes)) = some (some (.int .i64 0), 1, 8) := by kernel_rfl
  obtain ⟨i0, h1, h2, h3, h4⟩ := info_parts hi
  simp [Instr.index, asIntOf, run_underlying Tryz.underlying85, sizeOf, typeInfo, h1, h3, part, isAgg, run_underlying Tryz.underlying3, hg, hk]

/-- The vector so far, in new memory. -/
def VecAt (w : World) (l : List Dt) (v : Value) (wr : World) : Prop := wr.ownsRow w.heap.size 55 2 v l.length (dots l) ∧ Kept (fun _ => False) w wr
theorem vecTo_yes (r : List Int) (k : Nat) (h : 0 < rg r k) : vecTo r (k + 1) = vecTo r k ++ [⟨k, rg r k⟩] := by rw [vecTo, if_pos h]
theorem vecTo_no (r : List Int) (k : Nat) (h : ¬ 0 < rg r k) : vecTo r (k + 1) = vecTo r k := by rw [vecTo, if_neg h]
theorem news_dot (W : World) (a b : Int) (T : TypeId) (g : Nat) (hg : g = W.heap.size) : ∀ (j : Nat) (v : Value), [Value.int .i64 a, Value.int .i64 b][j]? = some v → (W.alloc (.cells #[.int .i64 a, .int .i64 b] T)).cell? ((⟨g, 0, none⟩ : Addr).add j) = some v := by
  subst hg
  intro j v hv
  rw [add_none, (Box.new W T #[.int .i64 a, .int .i64 b]).cell j]
  simpa using hv
theorem one_dot (a b : Int) : ∀ u ∈ [Value.int .i64 a, Value.int .i64 b], u.oneCell' = true := by
  intro u hu; simp at hu; rcases hu with rfl | rfl <;> rfl

set_option maxRecDepth 100000 in
set_option maxHeartbeats 1600000 in
theorem vector_any (r : List Int) (w : World) (hr : Row r) :
    Calls Tryz.prog 48 #[.agg (rowV r)] w (FreshDots w (vec r)) := by
  obtain ⟨i0, hi, hz0, hz1, hz2⟩ := info_parts info_dot
  have hb := Box.new w 85 (rowV r)
  have hk0 : Kept (fun _ => False) w (w.alloc (.cells (rowV r) 85)) := (Kept.refl _ _).alloc _
  have HR := Lib.hid hr
  have hld := size_row.trans (size_of_row hr)
  have hidx := fun (k : Nat) (hk : k < 17) (W : World) => run_index_row r hr.len k hk W
  have HIX := Lib.hid hidx
  have HK0 := Lib.hid hk0
  clear hidx hr hk0
  go_enter Tryz.func48, Tryz.ntmps48
  go_wp2_with (refine wpList_load_box rfl 85 (.tmp 1) rfl w.heap.size rfl 85 (rowV r) _ hb Tryz.underlying85 rfl hld ?_)
  generalize w.alloc (.cells (rowV r) 85) = W at HK0 hb ⊢
  clear hb hld
  go_loopw [3, 7] (fun v i wr => ∃ k : Nat, i = .int .i64 k ∧ k ≤ 17 ∧ VecAt w (vecTo r k) v wr) (fun _ i _ => 17 - (intOf i).toNat)
  case atStart => exact ⟨0, rfl, Nat.zero_le _, World.ownsRow_nil _ _ _ _, HK0.out⟩
  case round =>
    obtain ⟨k, rfl, hk, hv⟩ := hrel
    have HV := Lib.hid hv
    have hsz := hv.2.size
    have hvl := vecTo_len r k
    clear hv
    by_cases hlt : k < 17
    · have hix := HIX.out k hlt
      obtain ⟨x, hx⟩ : ∃ x, rg r k = x := ⟨_, rfl⟩
      rw [hx] at hix
      have HX := Lib.hid hx
      clear hx
      by_cases hpos : 0 < x
      · go_wp2_with (at_builtin; refine wpList_append_own_at _ rfl (.tmp 13) (.tmp 17) 32 rfl w.heap.size 55 i0 _ 2 16 Tryz.underlying32 hi hz0 hz1 hz2 rfl (by decide) _ _ (dots (vecTo r k)) rfl (HV.out.1.alloc _) ⟨wr.heap.size, 0, none⟩ 1 1 [.int .i64 (k : Int), .int .i64 x] rfl rfl ?c1 ?c2 ?c3 ?c4 ?c5 ?_)
        case c1 => exact news_dot _ _ _ _ _ rfl
        case c2 => exact one_dot _ _
        case c3 => unfold maxLen; omega
        case c4 => omega
        case c5 => simp; omega
        intro v' w1 hown1 hg1 _ hat
        have HO1 := Lib.hid hown1
        have HG1 := Lib.hid hg1
        clear hown1 hg1 hat hix
        go_wp2
        go_roundw
        case rel =>
          refine ⟨k + 1, by go_num, by omega, ?_, (HV.out.2.alloc _).grown HG1.out fun j hj e => ?_⟩
          · rw [vecTo_yes r k (by rw [HX.out]; exact hpos), dots_app, List.length_append, HX.out]
            exact HO1.out
          · have := (HV.out.1.lt j e).1
            omega
        case measure => simp [intOf]; omega
      · go_wp2
        go_roundw
        case rel => exact ⟨k + 1, by go_num, by omega, by rw [vecTo_no r k (by rw [HX.out]; exact hpos)]; exact HV.out⟩
        case measure => simp [intOf]; omega
    · obtain rfl : k = 17 := by omega
      go_wp2
      go_ret
      exact FreshDots.mk' rfl HV.out.1 HV.out.2

theorem vecTo_one {r : List Int} (h : Row r) : vecTo r 1 = [] := by rw [vecTo_no r 0 (by rw [h.zero]; omega)]; rfl

end Go.Proofs.YtoeipjhdpeibpaaGreat
