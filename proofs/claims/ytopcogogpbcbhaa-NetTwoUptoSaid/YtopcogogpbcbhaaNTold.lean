/- The walk of a copy's told. Conditions: the copy lies in memory. -/
import Derived.Test.YtopcogogpbcbhaaNMem
namespace Go.Proofs.Ytopcogogpbcbhaa
open Go Go.RowKit

theorem size_cp : (Try.prog.info? 44).map (·.size) = some 6 := by kernel_rfl
theorem cpC_one (c : Cp) (A : Option Addr) (cap : Nat) : (cpC c A cap).all (·.oneCell') = true := by simp [cpC, Value.oneCell']
theorem load_CP {w : World} {g : Nat} {c : Cp} {A : Option Addr} {cap : Nat} (hb : Box w g 44 (cpC c A cap)) : (loadVar 44 ⟨g, 0, none⟩).run Try.prog w = .ok (.agg (cpC c A cap)) w :=
  run_loadVar_row w g _ _ _ (0, 0) _ hb Try.underlying44 rfl (size_cp.trans rfl)
/-- A copy is told: its bytes in new memory. -/
def ToldPost (w : World) (c : Cp) (r : Ending) (w' : World) : Prop := ∃ A cap, r = .returned (.agg (cpC c A cap)) ∧ w'.ownsRow w.heap.size 5 1 (.slice A c.data.length cap) c.data.length (bys c.data) ∧ Kept (fun _ => False) w w'
theorem own_noneNil {w : World} {A : Option Addr} {base c : Nat} {l : List Int} (h : w.ownsRow base 5 1 (.slice A l.length c) l.length (bys l)) : A = none → l = [] := by
  rintro rfl
  rcases h.2 with ⟨_, h'⟩ | ⟨_, _, _, h', _⟩
  · exact List.eq_nil_of_length_eq_zero h'
  · injection h' with h'; cases h'
set_option maxRecDepth 100000 in
set_option maxHeartbeats 1600000 in
theorem Told_any (x : Ce) (F : Nat → Prop) (w : World) (h : CeAt w F x) (hl : x.c.data.length ≤ 60000) : Calls Try.prog 36 #[.pointer (some ⟨x.q, 0, none⟩)] w (ToldPost w x.c) := by
  have HQ0 := h.q.lt
  have HF0 := h.f.lt
  have hk0 : Kept (fun _ => False) w (w.alloc (.cells (cpC zeroCp none 0) 44)) := (Kept.refl _ _).alloc _
  have HX := Lib.hid (h.kept hk0 fun _ _ => id)
  have HB := Lib.hid (Box.new w 44 (cpC zeroCp none 0))
  have HK := Lib.hid hk0
  have HN := Lib.hid (fun W (h : CeAt W F x) => own_noneNil h.d)
  clear h hk0
  go_enter Try.func36, Try.ntmps36
  go_upto_region 1 with (fail)
  have hzz : w.alloc (.cells #[.int .i64 0, .int .i64 0, .int .i64 0, .slice none 0 0, .int .i64 0, .bool false] 44) = w.alloc (.cells (cpC zeroCp none 0) 44) := rfl
  rw [hzz]
  clear hzz
  generalize w.alloc (.cells (cpC zeroCp none 0) 44) = w0 at HX HB HK ⊢
  have hkd : Kept (fun _ => False) w0 w0.drew := (Kept.refl _ _).drew
  have HXD := Lib.hid (HX.out.kept hkd fun _ _ => id)
  have HBD := Lib.hid (HB.out.kept hkd id)
  have HKD := Lib.hid (HK.out.trans hkd fun _ _ e => e)
  clear hkd HX HB HK
  refine wp_region_held_drew (S := fun Wz => Kept (fun k => k = w.heap.size) w0.drew Wz) (by kernel_rfl) (Kept.refl _ _) fun hS => ?_
  generalize w0.drew = W at HXD HBD HKD hS ⊢
  refine held_takeTo 3 (i := 0) (v := .pointer (some ⟨x.q, 0, none⟩)) rfl rfl (by kernel_rfl) (by kernel_rfl) (by kernel_rfl) (fun _ _ _ h => h) rfl hS (fun Wz hW => by go_simp) ?_
  simp only [List.setIfInBounds_toArray, List.set_cons_zero, List.set_cons_succ]
  refine held_takeTo 4 (i := 1) (v := .pointer (some ⟨x.q, 0, none⟩)) rfl rfl (by kernel_rfl) (by kernel_rfl) (by kernel_rfl) (fun _ _ _ h => h) rfl hS (fun Wz hW => by go_simp) ?_
  simp only [List.setIfInBounds_toArray, List.set_cons_zero, List.set_cons_succ]
  refine held_takeTo 5 (i := 2) (v := .pointer (some ⟨x.q, 1, none⟩)) rfl rfl (by kernel_rfl) (by kernel_rfl) (by kernel_rfl) (fun _ _ _ h => h) rfl hS (fun Wz hW => by go_simp) ?_
  simp only [List.setIfInBounds_toArray, List.set_cons_zero, List.set_cons_succ]
  refine held_takeTo 6 (i := 3) (v := .int .i64 x.c.num) rfl rfl (by kernel_rfl) (by kernel_rfl) (by kernel_rfl) (fun _ _ _ h => h) rfl hS (fun Wz hW => by (have hc : Wz.cell? ⟨x.q, 1, none⟩ = some (.int .i64 x.c.num) := ((HXD.out.q.kept hW (by omega)).cell 1).trans rfl; go_simp)) ?_
  simp only [List.setIfInBounds_toArray, List.set_cons_zero, List.set_cons_succ]
  refine held_takeTo 7 (i := 4) (v := .pointer (some ⟨x.q, 0, none⟩)) rfl rfl (by kernel_rfl) (by kernel_rfl) (by kernel_rfl) (fun _ _ _ h => h) rfl hS (fun Wz hW => by go_simp) ?_
  simp only [List.setIfInBounds_toArray, List.set_cons_zero, List.set_cons_succ]
  refine held_takeTo 8 (i := 5) (v := .pointer (some ⟨x.q, 0, none⟩)) rfl rfl (by kernel_rfl) (by kernel_rfl) (by kernel_rfl) (fun _ _ _ h => h) rfl hS (fun Wz hW => by go_simp) ?_
  simp only [List.setIfInBounds_toArray, List.set_cons_zero, List.set_cons_succ]
  refine held_takeTo 9 (i := 6) (v := .pointer (some ⟨x.q, 0, none⟩)) rfl rfl (by kernel_rfl) (by kernel_rfl) (by kernel_rfl) (fun _ _ _ h => h) rfl hS (fun Wz hW => by go_simp) ?_
  simp only [List.setIfInBounds_toArray, List.set_cons_zero, List.set_cons_succ]
  refine held_takeTo 10 (i := 7) (v := .pointer (some ⟨x.f, 0, none⟩)) rfl rfl (by kernel_rfl) (by kernel_rfl) (by kernel_rfl) (fun _ _ _ h => h) rfl hS (fun Wz hW => by (have hc : Wz.cell? ⟨x.q, 0, none⟩ = some (.pointer (some ⟨x.f, 0, none⟩)) := ((HXD.out.q.kept hW (by omega)).cell 0).trans rfl; go_simp)) ?_
  simp only [List.setIfInBounds_toArray, List.set_cons_zero, List.set_cons_succ]
  refine held_takeTo 11 (i := 8) (v := .pointer (some ⟨x.f, 0, none⟩)) rfl rfl (by kernel_rfl) (by kernel_rfl) (by kernel_rfl) (fun _ _ _ h => h) rfl hS (fun Wz hW => by go_simp) ?_
  simp only [List.setIfInBounds_toArray, List.set_cons_zero, List.set_cons_succ]
  refine held_takeTo 12 (i := 9) (v := .pointer (some ⟨x.f, 0, none⟩)) rfl rfl (by kernel_rfl) (by kernel_rfl) (by kernel_rfl) (fun _ _ _ h => h) rfl hS (fun Wz hW => by go_simp) ?_
  simp only [List.setIfInBounds_toArray, List.set_cons_zero, List.set_cons_succ]
  refine held_takeTo 13 (i := 10) (v := .int .i64 x.c.src) rfl rfl (by kernel_rfl) (by kernel_rfl) (by kernel_rfl) (fun _ _ _ h => h) rfl hS (fun Wz hW => by (have hc : Wz.cell? ⟨x.f, 0, none⟩ = some (.int .i64 x.c.src) := ((HXD.out.f.kept hW (by omega)).cell 0).trans rfl; go_simp)) ?_
  simp only [List.setIfInBounds_toArray, List.set_cons_zero, List.set_cons_succ]
  refine held_takeTo 14 (i := 11) (v := .pointer (some ⟨x.q, 0, none⟩)) rfl rfl (by kernel_rfl) (by kernel_rfl) (by kernel_rfl) (fun _ _ _ h => h) rfl hS (fun Wz hW => by go_simp) ?_
  simp only [List.setIfInBounds_toArray, List.set_cons_zero, List.set_cons_succ]
  refine held_takeTo 15 (i := 12) (v := .pointer (some ⟨x.q, 0, none⟩)) rfl rfl (by kernel_rfl) (by kernel_rfl) (by kernel_rfl) (fun _ _ _ h => h) rfl hS (fun Wz hW => by go_simp) ?_
  simp only [List.setIfInBounds_toArray, List.set_cons_zero, List.set_cons_succ]
  refine held_takeTo 16 (i := 13) (v := .pointer (some ⟨x.q, 0, none⟩)) rfl rfl (by kernel_rfl) (by kernel_rfl) (by kernel_rfl) (fun _ _ _ h => h) rfl hS (fun Wz hW => by go_simp) ?_
  simp only [List.setIfInBounds_toArray, List.set_cons_zero, List.set_cons_succ]
  refine held_takeTo 17 (i := 14) (v := .pointer (some ⟨x.f, 0, none⟩)) rfl rfl (by kernel_rfl) (by kernel_rfl) (by kernel_rfl) (fun _ _ _ h => h) rfl hS (fun Wz hW => by (have hc : Wz.cell? ⟨x.q, 0, none⟩ = some (.pointer (some ⟨x.f, 0, none⟩)) := ((HXD.out.q.kept hW (by omega)).cell 0).trans rfl; go_simp)) ?_
  simp only [List.setIfInBounds_toArray, List.set_cons_zero, List.set_cons_succ]
  refine held_takeTo 18 (i := 15) (v := .pointer (some ⟨x.f, 0, none⟩)) rfl rfl (by kernel_rfl) (by kernel_rfl) (by kernel_rfl) (fun _ _ _ h => h) rfl hS (fun Wz hW => by go_simp) ?_
  simp only [List.setIfInBounds_toArray, List.set_cons_zero, List.set_cons_succ]
  refine held_takeTo 19 (i := 16) (v := .pointer (some ⟨x.f, 1, none⟩)) rfl rfl (by kernel_rfl) (by kernel_rfl) (by kernel_rfl) (fun _ _ _ h => h) rfl hS (fun Wz hW => by go_simp) ?_
  simp only [List.setIfInBounds_toArray, List.set_cons_zero, List.set_cons_succ]
  refine held_takeTo 20 (i := 17) (v := .int .i64 x.c.dst) rfl rfl (by kernel_rfl) (by kernel_rfl) (by kernel_rfl) (fun _ _ _ h => h) rfl hS (fun Wz hW => by (have hc : Wz.cell? ⟨x.f, 1, none⟩ = some (.int .i64 x.c.dst) := ((HXD.out.f.kept hW (by omega)).cell 1).trans rfl; go_simp)) ?_
  simp only [List.setIfInBounds_toArray, List.set_cons_zero, List.set_cons_succ]
  refine held_takeTo 21 (i := 18) (v := .pointer (some ⟨x.q, 0, none⟩)) rfl rfl (by kernel_rfl) (by kernel_rfl) (by kernel_rfl) (fun _ _ _ h => h) rfl hS (fun Wz hW => by go_simp) ?_
  simp only [List.setIfInBounds_toArray, List.set_cons_zero, List.set_cons_succ]
  refine held_takeTo 22 (i := 19) (v := .pointer (some ⟨x.q, 0, none⟩)) rfl rfl (by kernel_rfl) (by kernel_rfl) (by kernel_rfl) (fun _ _ _ h => h) rfl hS (fun Wz hW => by go_simp) ?_
  simp only [List.setIfInBounds_toArray, List.set_cons_zero, List.set_cons_succ]
  refine held_takeTo 23 (i := 20) (v := .pointer (some ⟨x.q, 2, none⟩)) rfl rfl (by kernel_rfl) (by kernel_rfl) (by kernel_rfl) (fun _ _ _ h => h) rfl hS (fun Wz hW => by go_simp) ?_
  simp only [List.setIfInBounds_toArray, List.set_cons_zero, List.set_cons_succ]
  refine held_takeTo 24 (i := 21) (v := .slice x.dA x.c.data.length x.dc) rfl rfl (by kernel_rfl) (by kernel_rfl) (by kernel_rfl) (fun _ _ _ h => h) rfl hS (fun Wz hW => by (have hc : Wz.cell? ⟨x.q, 2, none⟩ = some (.slice x.dA x.c.data.length x.dc) := ((HXD.out.q.kept hW (by omega)).cell 2).trans rfl; go_simp)) ?_
  simp only [List.setIfInBounds_toArray, List.set_cons_zero, List.set_cons_succ]
  refine held_takeTo 26 (i := 23) (v := .pointer (some ⟨x.q, 0, none⟩)) rfl rfl (by kernel_rfl) (by kernel_rfl) (by kernel_rfl) (fun _ _ _ h => h) rfl hS (fun Wz hW => by go_simp) ?_
  simp only [List.setIfInBounds_toArray, List.set_cons_zero, List.set_cons_succ]
  refine held_takeTo 27 (i := 24) (v := .pointer (some ⟨x.q, 0, none⟩)) rfl rfl (by kernel_rfl) (by kernel_rfl) (by kernel_rfl) (fun _ _ _ h => h) rfl hS (fun Wz hW => by go_simp) ?_
  simp only [List.setIfInBounds_toArray, List.set_cons_zero, List.set_cons_succ]
  refine held_takeTo 28 (i := 25) (v := .pointer (some ⟨x.q, 0, none⟩)) rfl rfl (by kernel_rfl) (by kernel_rfl) (by kernel_rfl) (fun _ _ _ h => h) rfl hS (fun Wz hW => by go_simp) ?_
  simp only [List.setIfInBounds_toArray, List.set_cons_zero, List.set_cons_succ]
  refine held_takeTo 29 (i := 26) (v := .pointer (some ⟨x.f, 0, none⟩)) rfl rfl (by kernel_rfl) (by kernel_rfl) (by kernel_rfl) (fun _ _ _ h => h) rfl hS (fun Wz hW => by (have hc : Wz.cell? ⟨x.q, 0, none⟩ = some (.pointer (some ⟨x.f, 0, none⟩)) := ((HXD.out.q.kept hW (by omega)).cell 0).trans rfl; go_simp)) ?_
  simp only [List.setIfInBounds_toArray, List.set_cons_zero, List.set_cons_succ]
  refine held_takeTo 30 (i := 27) (v := .pointer (some ⟨x.f, 0, none⟩)) rfl rfl (by kernel_rfl) (by kernel_rfl) (by kernel_rfl) (fun _ _ _ h => h) rfl hS (fun Wz hW => by go_simp) ?_
  simp only [List.setIfInBounds_toArray, List.set_cons_zero, List.set_cons_succ]
  refine held_takeTo 31 (i := 28) (v := .pointer (some ⟨x.f, 2, none⟩)) rfl rfl (by kernel_rfl) (by kernel_rfl) (by kernel_rfl) (fun _ _ _ h => h) rfl hS (fun Wz hW => by go_simp) ?_
  simp only [List.setIfInBounds_toArray, List.set_cons_zero, List.set_cons_succ]
  refine held_takeTo 32 (i := 29) (v := .int .i64 x.c.sent) rfl rfl (by kernel_rfl) (by kernel_rfl) (by kernel_rfl) (fun _ _ _ h => h) rfl hS (fun Wz hW => by (have hc : Wz.cell? ⟨x.f, 2, none⟩ = some (.int .i64 x.c.sent) := ((HXD.out.f.kept hW (by omega)).cell 2).trans rfl; go_simp)) ?_
  simp only [List.setIfInBounds_toArray, List.set_cons_zero, List.set_cons_succ]
  refine held_takeTo 33 (i := 30) (v := .pointer (some ⟨x.q, 0, none⟩)) rfl rfl (by kernel_rfl) (by kernel_rfl) (by kernel_rfl) (fun _ _ _ h => h) rfl hS (fun Wz hW => by go_simp) ?_
  simp only [List.setIfInBounds_toArray, List.set_cons_zero, List.set_cons_succ]
  refine held_takeTo 34 (i := 31) (v := .pointer (some ⟨x.q, 0, none⟩)) rfl rfl (by kernel_rfl) (by kernel_rfl) (by kernel_rfl) (fun _ _ _ h => h) rfl hS (fun Wz hW => by go_simp) ?_
  simp only [List.setIfInBounds_toArray, List.set_cons_zero, List.set_cons_succ]
  refine held_takeTo 35 (i := 32) (v := .pointer (some ⟨x.q, 3, none⟩)) rfl rfl (by kernel_rfl) (by kernel_rfl) (by kernel_rfl) (fun _ _ _ h => h) rfl hS (fun Wz hW => by go_simp) ?_
  simp only [List.setIfInBounds_toArray, List.set_cons_zero, List.set_cons_succ]
  refine held_takeTo 36 (i := 33) (v := .bool x.c.bad) rfl rfl (by kernel_rfl) (by kernel_rfl) (by kernel_rfl) (fun _ _ _ h => h) rfl hS (fun Wz hW => by (have hc : Wz.cell? ⟨x.q, 3, none⟩ = some (.bool x.c.bad) := ((HXD.out.q.kept hW (by omega)).cell 3).trans rfl; go_simp)) ?_
  simp only [List.setIfInBounds_toArray, List.set_cons_zero, List.set_cons_succ]
  refine held_one (i := 22) (by kernel_rfl) rfl fun K hK => ?_
  go_wp2_with (fail)
  refine (Clone_any x.dA x.c.data x.dc W (BytesAt.of_own HXD.out.d) (HN.out W HXD.out) (by omega)).mono ?_
  rintro r w2 ⟨A, cap, rfl, ho, hk⟩
  have HO2 := Lib.hid (own_base ho HKD.out.size)
  have HB2 := Lib.hid (HBD.out.kept hk id)
  have HK2 := Lib.hid (HKD.out.trans hk fun _ _ e => e)
  have hS2 : Kept (fun k => k = w.heap.size) W w2 := hS.trans hk fun _ _ e => e.elim
  have HNE := Lib.hid (show ∀ k, (Value.slice A x.c.data.length cap).ownBlock = some k → ¬ k = w.heap.size from fun k e => by have := (ho.lt k e).1; have := HBD.out.lt; omega)
  clear ho hk
  go_wp2_with (fail)
  refine hK.out _ _ hS2 fun _ => ?_
  clear hK K
  refine held_one (i := 34) (by kernel_rfl) rfl fun K hK => ?_
  go_wp2_with (fail)
  refine hK.out _ _ hS2 fun _ => ?_
  clear hK K
  refine held_one (i := 35) (by kernel_rfl) rfl fun K hK => ?_
  refine wpList_store_box rfl 44 (.tmp 2) (.tmp 37) rfl w.heap.size (cpC x.c A cap) rfl rfl 44 (cpC zeroCp none 0) HB2.out (size_cp.trans rfl) rfl (cpC_one _ _ _) ?_
  intro w3 HB3 hk3
  go_wp2_with (fail)
  refine hK.out _ _ (hS2.trans hk3 fun _ _ e => e) fun _ => ?_
  clear hK K
  refine wpAnyH_done (by kernel_rfl) ?_ _
  go_wp2_with (fail)
  refine bodyPost_ret (results_cell_row (show Try.f36.results = #[.cell 2 44] by kernel_rfl) _ _ w.heap.size 44 (cpC x.c A cap) (0, 0) _ rfl HB3.out Try.underlying44 rfl (size_cp.trans rfl)) rfl ?_
  exact ⟨A, cap, rfl, hk3.own HO2.out fun k e hk => HNE.out k e hk, HK2.out.trans hk3 fun k hk e => by omega⟩
end Go.Proofs.Ytopcogogpbcbhaa
