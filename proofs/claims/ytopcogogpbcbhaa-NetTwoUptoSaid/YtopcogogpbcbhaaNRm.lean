/- The walk of the reference's more. Conditions: the bytes and the network lie in memory. -/
import Derived.Test.YtopcogogpbcbhaaNRb
namespace Go.Proofs.Ytopcogogpbcbhaa
open Go Go.RowKit

set_option maxRecDepth 100000 in
set_option maxHeartbeats 12800000 in
theorem RMore_any (p : Nat) (F : Nat → Prop) (s : Nt) (L : Option Addr) (lc : Nat) (hs : List He) (w : World) (h : RNetAt w p F s L lc hs) (hlast : s.last < 100000) (hll : hs.length ≤ 1000000) (f t a : Int) (A : Option Addr) (b : List Int) (c : Nat)
    (hb : ∀ W, Kept (fun k => k = p ∨ (Value.slice L hs.length lc).ownBlock = some k) w W → BytesAt W A b) (hn : A = none → b = []) (hby : isByte b) (hlen : b.length ≤ 60000) :
    Calls Try.prog 48 #[.pointer (some ⟨p, 0, none⟩), .int .i64 f, .int .i64 t, .slice A b.length c, .int .i64 a] w (fun r w' => r = .returned (.tuple #[.int .i64 ((s.last + 1 : Nat) : Int), .int .i64 0]) ∧ RNetPost w p F (s.add f t a b) w') := by
  have HZ := Lib.hid h
  obtain ⟨N, hN⟩ : ∃ N, s.last + 1 = N := ⟨_, rfl⟩
  rw [hN]
  have HN := Lib.hid hN
  have hw : IntKind.i64.wrap ((s.last : Int) + 1) = (N : Int) := by rw [IntWalk.i64_in _ ⟨by omega, by omega⟩]; omega
  have x1 : w.cell? ⟨p, 1, none⟩ = some (.int .i64 (s.last : Int)) := (h.box.cell 1).trans rfl
  have f1 := h.box.frozen 1
  have hge : ¬ (2147483647 : Int) ≤ (s.last : Int) := by omega
  have hb1 := h.box.set 1 (.int .i64 (N : Int))
  have hk1 : Kept (fun k => k = p ∨ (Value.slice L hs.length lc).ownBlock = some k) w (w.setCell ⟨p, 1, none⟩ (.int .i64 (N : Int))) := (Kept.refl _ w).at (g := p) 1 _ (.inl (.inl rfl))
  have HBA := Lib.hid hb
  have HNN := Lib.hid hn
  have hrw := ((Kept.refl (fun k => k = p) w).at (g := p) 1 (.int .i64 (N : Int)) (.inl rfl)).own h.row fun k e e2 => own_box_ne h.row h.box (by decide) (by rw [e, e2])
  have hty : (79 : TypeId) ≠ 62 := by decide
  clear h hb hn
  go_enter Try.func48, Try.ntmps48
  go_upto_region 4 with (fail)
  generalize w.setCell ⟨p, 1, none⟩ (.int .i64 (N : Int)) = w1 at hb1 hk1 hrw ⊢
  have hb2 : Box w1.drew p 62 #[.slice L hs.length lc, .int .i64 (N : Int)] := hb1
  have HPB := Lib.hid hb2
  have HR := Lib.hid (show w1.drew.ownsRow 0 79 7 (.slice L hs.length lc) hs.length (hes hs) from hrw)
  refine wp_region_held_drew (S := fun Wz => Kept (fun k => k = p ∨ (Value.slice L hs.length lc).ownBlock = some k) w Wz ∧ ∃ v, Box Wz p 62 #[v, .int .i64 (N : Int)]) (by kernel_rfl) ⟨hk1.drew, _, hb2⟩ fun hS => ?_
  clear x1 f1 hge hb1 hk1 hrw hb2 hw
  generalize w1.drew = W at HPB HR hS ⊢
  refine held_takeTo 24 (i := 0) (v := .pointer (some ⟨p, 0, none⟩)) rfl rfl (by kernel_rfl) (by kernel_rfl) (by kernel_rfl) (fun _ _ _ h => h) rfl hS (fun Wz hW => by go_simp) ?_
  simp only [List.setIfInBounds_toArray, List.set_cons_zero, List.set_cons_succ]
  refine held_takeTo 25 (i := 1) (v := .pointer (some ⟨p, 0, none⟩)) rfl rfl (by kernel_rfl) (by kernel_rfl) (by kernel_rfl) (fun _ _ _ h => h) rfl hS (fun Wz hW => by go_simp) ?_
  simp only [List.setIfInBounds_toArray, List.set_cons_zero, List.set_cons_succ]
  refine held_takeTo 26 (i := 2) (v := .pointer (some ⟨p, 0, none⟩)) rfl rfl (by kernel_rfl) (by kernel_rfl) (by kernel_rfl) (fun _ _ _ h => h) rfl hS (fun Wz hW => by go_simp) ?_
  simp only [List.setIfInBounds_toArray, List.set_cons_zero, List.set_cons_succ]
  refine held_takeTo 27 (i := 3) (v := .pointer (some ⟨p, 0, none⟩)) rfl rfl (by kernel_rfl) (by kernel_rfl) (by kernel_rfl) (fun _ _ _ h => h) rfl hS (fun Wz hW => by go_simp) ?_
  simp only [List.setIfInBounds_toArray, List.set_cons_zero, List.set_cons_succ]
  refine held_takeTo 29 (i := 5) (v := .pointer (some ⟨p, 0, none⟩)) rfl rfl (by kernel_rfl) (by kernel_rfl) (by kernel_rfl) (fun _ _ _ h => h) rfl hS (fun Wz hW => by go_simp) ?_
  simp only [List.setIfInBounds_toArray, List.set_cons_zero, List.set_cons_succ]
  refine held_takeTo 30 (i := 6) (v := .pointer (some ⟨p, 0, none⟩)) rfl rfl (by kernel_rfl) (by kernel_rfl) (by kernel_rfl) (fun _ _ _ h => h) rfl hS (fun Wz hW => by go_simp) ?_
  simp only [List.setIfInBounds_toArray, List.set_cons_zero, List.set_cons_succ]
  refine held_takeTo 31 (i := 7) (v := .pointer (some ⟨p, 1, none⟩)) rfl rfl (by kernel_rfl) (by kernel_rfl) (by kernel_rfl) (fun _ _ _ h => h) rfl hS (fun Wz hW => by go_simp) ?_
  simp only [List.setIfInBounds_toArray, List.set_cons_zero, List.set_cons_succ]
  refine held_takeTo 32 (i := 8) (v := .int .i64 (N : Int)) rfl rfl (by kernel_rfl) (by kernel_rfl) (by kernel_rfl) (fun _ _ _ h => h) rfl hS (fun Wz hW => by (obtain ⟨v, hv⟩ := hW.2; have hc : Wz.cell? ⟨p, 1, none⟩ = some (.int .i64 (N : Int)) := (hv.cell 1).trans rfl; clear hv; go_simp)) ?_
  simp only [List.setIfInBounds_toArray, List.set_cons_zero, List.set_cons_succ]
  refine held_takeTo 33 (i := 9) (v := .int .i64 f) rfl rfl (by kernel_rfl) (by kernel_rfl) (by kernel_rfl) (fun _ _ _ h => h) rfl hS (fun Wz hW => by go_simp) ?_
  simp only [List.setIfInBounds_toArray, List.set_cons_zero, List.set_cons_succ]
  refine held_takeTo 34 (i := 10) (v := .int .i64 t) rfl rfl (by kernel_rfl) (by kernel_rfl) (by kernel_rfl) (fun _ _ _ h => h) rfl hS (fun Wz hW => by go_simp) ?_
  simp only [List.setIfInBounds_toArray, List.set_cons_zero, List.set_cons_succ]
  refine held_takeTo 35 (i := 11) (v := .slice A b.length c) rfl rfl (by kernel_rfl) (by kernel_rfl) (by kernel_rfl) (fun _ _ _ h => h) rfl hS (fun Wz hW => by go_simp) ?_
  simp only [List.setIfInBounds_toArray, List.set_cons_zero, List.set_cons_succ]
  refine held_takeTo 37 (i := 13) (v := .int .i64 a) rfl rfl (by kernel_rfl) (by kernel_rfl) (by kernel_rfl) (fun _ _ _ h => h) rfl hS (fun Wz hW => by go_simp) ?_
  simp only [List.setIfInBounds_toArray, List.set_cons_zero, List.set_cons_succ]
  refine held_takeTo 39 (i := 15) (v := .slice A b.length c) rfl rfl (by kernel_rfl) (by kernel_rfl) (by kernel_rfl) (fun _ _ _ h => h) rfl hS (fun Wz hW => by go_simp) ?_
  simp only [List.setIfInBounds_toArray, List.set_cons_zero, List.set_cons_succ]
  refine held_two (i := 4) (j := 12) (by kernel_rfl) rfl rfl (fun K hK => ?_) (fun K hK => ?_)
  · skip
    have x0 : (W).cell? ⟨p, 0, none⟩ = some (.slice L hs.length lc) := (HPB.out.cell 0).trans rfl
    go_wp2_with (fail)
    refine hK.out _ _ hS fun _ => ?_
    clear hK K x0
    refine held_one (i := 12) (by kernel_rfl) rfl fun K hK => ?_
    go_wp2_with (fail)
    refine (RTwin_any A b c W (HBA.out W hS.1) HNN.out (by omega)).mono ?_
    rintro r W1 ⟨A1, c1, rfl, ho, hk⟩
    have HO1 := Lib.hid (own_base ho hS.1.size)
    have HPB1 := Lib.hid (HPB.out.kept hk id)
    have HR1 := Lib.hid (hk.own HR.out fun _ _ => id)
    have hS1 : Kept (fun k => k = p ∨ (Value.slice L hs.length lc).ownBlock = some k) w W1 ∧ ∃ v, Box W1 p 62 #[v, .int .i64 (N : Int)] := ⟨hS.1.trans hk fun _ _ e => e.elim, _, HPB1.out⟩
    clear ho hk HPB HR
    go_wp2_with (fail)
    refine hK.out _ _ hS1 fun _ => ?_
    clear hK K hS
    refine held_takeTo 38 (i := 14) (v := .agg #[.int .i64 (N : Int), .int .i64 f, .int .i64 t, .slice A1 b.length c1, .int .i64 a, .bool false]) rfl rfl (by kernel_rfl) (by kernel_rfl) (by kernel_rfl) (fun _ _ _ h => h) rfl hS1 (fun Wz hW => by go_simp) ?_
    simp only [List.setIfInBounds_toArray, List.set_cons_zero, List.set_cons_succ]
    refine held_one (i := 16) (by kernel_rfl) rfl fun K hK => ?_
    go_wp2_with (fail)
    refine (RTwin_any A b c W1 (HBA.out W1 hS1.1) HNN.out (by omega)).mono ?_
    rintro r W2 ⟨A2, c2, rfl, ho, hk⟩
    have HO2 := Lib.hid (own_base ho hS1.1.size)
    have HPB2 := Lib.hid (HPB1.out.kept hk id)
    have HR2 := Lib.hid (hk.own HR1.out fun _ _ => id)
    have hS2 : Kept (fun k => k = p ∨ (Value.slice L hs.length lc).ownBlock = some k) w W2 ∧ ∃ v, Box W2 p 62 #[v, .int .i64 (N : Int)] := ⟨hS1.1.trans hk fun _ _ e => e.elim, _, HPB2.out⟩
    have HO1 := Lib.hid (hk.own HO1.out fun _ _ => id)
    clear ho hk HPB1 HR1
    go_wp2_with (fail)
    refine hK.out _ _ hS2 fun _ => ?_
    clear hK K hS1
    refine held_takeTo 41 (i := 17) (v := .agg #[.int .i64 (N : Int), .int .i64 f, .int .i64 t, .slice A1 b.length c1, .int .i64 a, .bool false, .slice A2 b.length c2]) rfl rfl (by kernel_rfl) (by kernel_rfl) (by kernel_rfl) (fun _ _ _ h => h) rfl hS2 (fun Wz hW => by go_simp) ?_
    simp only [List.setIfInBounds_toArray, List.set_cons_zero, List.set_cons_succ]
    refine held_one (i := 18) (by kernel_rfl) rfl fun K hK => ?_
    have hS3 : Kept (fun k => k = p ∨ (Value.slice L hs.length lc).ownBlock = some k) w (W2.alloc (.cells #[.int .i64 (N : Int), .int .i64 f, .int .i64 t, .slice A1 b.length c1, .int .i64 a, .bool false, .slice A2 b.length c2] 79)) ∧ ∃ v, Box (W2.alloc (.cells #[.int .i64 (N : Int), .int .i64 f, .int .i64 t, .slice A1 b.length c1, .int .i64 a, .bool false, .slice A2 b.length c2] 79)) p 62 #[v, .int .i64 (N : Int)] := ⟨hS2.1.alloc _, _, HPB2.out.alloc _⟩
    go_wp2_with (fail)
    refine hK.out _ _ hS3 fun _ => ?_
    clear hK K
    refine held_one (i := 19) (by kernel_rfl) rfl fun K hK => ?_
    refine wpList_append_new eltHeld rfl _ _ rfl 0 _ hs.length (hes hs) rfl HR2.out 1 1 rfl rfl rfl (by omega) (Nat.zero_le _) ?_
    intro L3 lc3 W3 HO3 HK3 HG3
    have HPB3 := Lib.hid (HPB2.out.kept HK3.out fun e => own_box_ne HR2.out HPB2.out hty e)
    have HO13 := Lib.hid (HK3.out.own HO1.out fun k e e2 => own_kinds HO1.out HR2.out (by decide) k e e2)
    have HO23 := Lib.hid (HK3.out.own HO2.out fun k e e2 => own_kinds HO2.out HR2.out (by decide) k e e2)
    have hS4 : Kept (fun k => k = p ∨ (Value.slice L hs.length lc).ownBlock = some k) w W3 ∧ ∃ v, Box W3 p 62 #[v, .int .i64 (N : Int)] := ⟨hS2.1.trans HK3.out fun k _ e => .inr e, _, HPB3.out⟩
    have HGG := Lib.hid (show Goes w (.slice L hs.length lc) (.slice L3 (hs.length + 1) lc3) from fun k e => (HG3.out k e).imp id fun e2 => Nat.le_trans hS2.1.size e2)
    clear HK3 HG3 HR2 HPB2 HO1 HO2
    go_wp2_with (fail)
    refine hK.out _ _ hS4 fun _ => ?_
    clear hK K hS2 hS3
    refine held_one (i := 20) (by kernel_rfl) rfl fun K hK => ?_
    go_wp2_with (fail)
    refine hK.out _ _ hS4 fun _ => ?_
    clear hK K
    refine held_one (i := 21) (by kernel_rfl) rfl fun K hK => ?_
    go_wp2_with (fail)
    refine hK.out _ _ hS4 fun _ => ?_
    clear hK K
    refine held_one (i := 22) (by kernel_rfl) rfl fun K hK => ?_
    have x0 : W3.cell? ⟨p, 0, none⟩ = some (.slice L hs.length lc) := (HPB3.out.cell 0).trans rfl
    have f0 := HPB3.out.frozen 0
    have hb5 : Box (W3.setCell ⟨p, 0, none⟩ (.slice L3 (hs.length + 1) lc3)) p 62 #[.slice L3 (hs.length + 1) lc3, .int .i64 (N : Int)] := HPB3.out.set 0 _
    have hk5 := (Kept.refl (fun k => k = p) W3).at (g := p) 0 (.slice L3 (hs.length + 1) lc3) (.inl rfl)
    have hS5 : Kept (fun k => k = p ∨ (Value.slice L hs.length lc).ownBlock = some k) w (W3.setCell ⟨p, 0, none⟩ (.slice L3 (hs.length + 1) lc3)) ∧ ∃ v, Box (W3.setCell ⟨p, 0, none⟩ (.slice L3 (hs.length + 1) lc3)) p 62 #[v, .int .i64 (N : Int)] := ⟨hS4.1.trans hk5 fun k _ e => .inl e, _, hb5⟩
    have HB5 := Lib.hid hb5
    have HO5 := Lib.hid (hk5.own HO3.out fun k e e2 => own_box_ne HO3.out HPB3.out hty (by rw [e, e2]))
    have HO15 := Lib.hid (hk5.own HO13.out fun k e e2 => own_box_ne HO13.out HPB3.out (by decide) (by rw [e, e2]))
    have HO25 := Lib.hid (hk5.own HO23.out fun k e e2 => own_box_ne HO23.out HPB3.out (by decide) (by rw [e, e2]))
    clear hb5 hk5 HO3 HO13 HO23 HPB3
    go_wp2_with (fail)
    refine hK.out _ _ hS5 fun _ => ?_
    clear hK K hS4 x0 f0
    refine wpAnyH_done (by kernel_rfl) ?_ _
    generalize W3.setCell ⟨p, 0, none⟩ (.slice L3 (hs.length + 1) lc3) = W5 at hS5 HB5 HO5 HO15 HO25 ⊢
    have x1 : W5.cell? ⟨p, 1, none⟩ = some (.int .i64 (N : Int)) := (HB5.out.cell 1).trans rfl
    have HS5 := Lib.hid hS5.1
    clear hS5
    go_wp2_with (fail)
    go_ret2
    have hN := HN.out
    subst hN
    exact ⟨rfl, HZ.out.push hlast hby hlen HS5.out HB5.out HO5.out HGG.out HO15.out HO25.out⟩
  · skip
    go_wp2_with (fail)
    refine (RTwin_any A b c W (HBA.out W hS.1) HNN.out (by omega)).mono ?_
    rintro r W1 ⟨A1, c1, rfl, ho, hk⟩
    have HO1 := Lib.hid (own_base ho hS.1.size)
    have HPB1 := Lib.hid (HPB.out.kept hk id)
    have HR1 := Lib.hid (hk.own HR.out fun _ _ => id)
    have hS1 : Kept (fun k => k = p ∨ (Value.slice L hs.length lc).ownBlock = some k) w W1 ∧ ∃ v, Box W1 p 62 #[v, .int .i64 (N : Int)] := ⟨hS.1.trans hk fun _ _ e => e.elim, _, HPB1.out⟩
    clear ho hk HPB HR
    go_wp2_with (fail)
    refine hK.out _ _ hS1 fun _ => ?_
    clear hK K hS
    refine held_takeTo 38 (i := 14) (v := .agg #[.int .i64 (N : Int), .int .i64 f, .int .i64 t, .slice A1 b.length c1, .int .i64 a, .bool false]) rfl rfl (by kernel_rfl) (by kernel_rfl) (by kernel_rfl) (fun _ _ _ h => h) rfl hS1 (fun Wz hW => by go_simp) ?_
    simp only [List.setIfInBounds_toArray, List.set_cons_zero, List.set_cons_succ]
    refine held_two (i := 4) (j := 16) (by kernel_rfl) rfl rfl (fun K hK => ?_) (fun K hK => ?_)
    · skip
      have x0 : (W1).cell? ⟨p, 0, none⟩ = some (.slice L hs.length lc) := (HPB1.out.cell 0).trans rfl
      go_wp2_with (fail)
      refine hK.out _ _ hS1 fun _ => ?_
      clear hK K x0
      refine held_one (i := 16) (by kernel_rfl) rfl fun K hK => ?_
      go_wp2_with (fail)
      refine (RTwin_any A b c W1 (HBA.out W1 hS1.1) HNN.out (by omega)).mono ?_
      rintro r W2 ⟨A2, c2, rfl, ho, hk⟩
      have HO2 := Lib.hid (own_base ho hS1.1.size)
      have HPB2 := Lib.hid (HPB1.out.kept hk id)
      have HR2 := Lib.hid (hk.own HR1.out fun _ _ => id)
      have hS2 : Kept (fun k => k = p ∨ (Value.slice L hs.length lc).ownBlock = some k) w W2 ∧ ∃ v, Box W2 p 62 #[v, .int .i64 (N : Int)] := ⟨hS1.1.trans hk fun _ _ e => e.elim, _, HPB2.out⟩
      have HO1 := Lib.hid (hk.own HO1.out fun _ _ => id)
      clear ho hk HPB1 HR1
      go_wp2_with (fail)
      refine hK.out _ _ hS2 fun _ => ?_
      clear hK K hS1
      refine held_takeTo 41 (i := 17) (v := .agg #[.int .i64 (N : Int), .int .i64 f, .int .i64 t, .slice A1 b.length c1, .int .i64 a, .bool false, .slice A2 b.length c2]) rfl rfl (by kernel_rfl) (by kernel_rfl) (by kernel_rfl) (fun _ _ _ h => h) rfl hS2 (fun Wz hW => by go_simp) ?_
      simp only [List.setIfInBounds_toArray, List.set_cons_zero, List.set_cons_succ]
      refine held_one (i := 18) (by kernel_rfl) rfl fun K hK => ?_
      have hS3 : Kept (fun k => k = p ∨ (Value.slice L hs.length lc).ownBlock = some k) w (W2.alloc (.cells #[.int .i64 (N : Int), .int .i64 f, .int .i64 t, .slice A1 b.length c1, .int .i64 a, .bool false, .slice A2 b.length c2] 79)) ∧ ∃ v, Box (W2.alloc (.cells #[.int .i64 (N : Int), .int .i64 f, .int .i64 t, .slice A1 b.length c1, .int .i64 a, .bool false, .slice A2 b.length c2] 79)) p 62 #[v, .int .i64 (N : Int)] := ⟨hS2.1.alloc _, _, HPB2.out.alloc _⟩
      go_wp2_with (fail)
      refine hK.out _ _ hS3 fun _ => ?_
      clear hK K
      refine held_one (i := 19) (by kernel_rfl) rfl fun K hK => ?_
      refine wpList_append_new eltHeld rfl _ _ rfl 0 _ hs.length (hes hs) rfl HR2.out 1 1 rfl rfl rfl (by omega) (Nat.zero_le _) ?_
      intro L3 lc3 W3 HO3 HK3 HG3
      have HPB3 := Lib.hid (HPB2.out.kept HK3.out fun e => own_box_ne HR2.out HPB2.out hty e)
      have HO13 := Lib.hid (HK3.out.own HO1.out fun k e e2 => own_kinds HO1.out HR2.out (by decide) k e e2)
      have HO23 := Lib.hid (HK3.out.own HO2.out fun k e e2 => own_kinds HO2.out HR2.out (by decide) k e e2)
      have hS4 : Kept (fun k => k = p ∨ (Value.slice L hs.length lc).ownBlock = some k) w W3 ∧ ∃ v, Box W3 p 62 #[v, .int .i64 (N : Int)] := ⟨hS2.1.trans HK3.out fun k _ e => .inr e, _, HPB3.out⟩
      have HGG := Lib.hid (show Goes w (.slice L hs.length lc) (.slice L3 (hs.length + 1) lc3) from fun k e => (HG3.out k e).imp id fun e2 => Nat.le_trans hS2.1.size e2)
      clear HK3 HG3 HR2 HPB2 HO1 HO2
      go_wp2_with (fail)
      refine hK.out _ _ hS4 fun _ => ?_
      clear hK K hS2 hS3
      refine held_one (i := 20) (by kernel_rfl) rfl fun K hK => ?_
      go_wp2_with (fail)
      refine hK.out _ _ hS4 fun _ => ?_
      clear hK K
      refine held_one (i := 21) (by kernel_rfl) rfl fun K hK => ?_
      go_wp2_with (fail)
      refine hK.out _ _ hS4 fun _ => ?_
      clear hK K
      refine held_one (i := 22) (by kernel_rfl) rfl fun K hK => ?_
      have x0 : W3.cell? ⟨p, 0, none⟩ = some (.slice L hs.length lc) := (HPB3.out.cell 0).trans rfl
      have f0 := HPB3.out.frozen 0
      have hb5 : Box (W3.setCell ⟨p, 0, none⟩ (.slice L3 (hs.length + 1) lc3)) p 62 #[.slice L3 (hs.length + 1) lc3, .int .i64 (N : Int)] := HPB3.out.set 0 _
      have hk5 := (Kept.refl (fun k => k = p) W3).at (g := p) 0 (.slice L3 (hs.length + 1) lc3) (.inl rfl)
      have hS5 : Kept (fun k => k = p ∨ (Value.slice L hs.length lc).ownBlock = some k) w (W3.setCell ⟨p, 0, none⟩ (.slice L3 (hs.length + 1) lc3)) ∧ ∃ v, Box (W3.setCell ⟨p, 0, none⟩ (.slice L3 (hs.length + 1) lc3)) p 62 #[v, .int .i64 (N : Int)] := ⟨hS4.1.trans hk5 fun k _ e => .inl e, _, hb5⟩
      have HB5 := Lib.hid hb5
      have HO5 := Lib.hid (hk5.own HO3.out fun k e e2 => own_box_ne HO3.out HPB3.out hty (by rw [e, e2]))
      have HO15 := Lib.hid (hk5.own HO13.out fun k e e2 => own_box_ne HO13.out HPB3.out (by decide) (by rw [e, e2]))
      have HO25 := Lib.hid (hk5.own HO23.out fun k e e2 => own_box_ne HO23.out HPB3.out (by decide) (by rw [e, e2]))
      clear hb5 hk5 HO3 HO13 HO23 HPB3
      go_wp2_with (fail)
      refine hK.out _ _ hS5 fun _ => ?_
      clear hK K hS4 x0 f0
      refine wpAnyH_done (by kernel_rfl) ?_ _
      generalize W3.setCell ⟨p, 0, none⟩ (.slice L3 (hs.length + 1) lc3) = W5 at hS5 HB5 HO5 HO15 HO25 ⊢
      have x1 : W5.cell? ⟨p, 1, none⟩ = some (.int .i64 (N : Int)) := (HB5.out.cell 1).trans rfl
      have HS5 := Lib.hid hS5.1
      clear hS5
      go_wp2_with (fail)
      go_ret2
      have hN := HN.out
      subst hN
      exact ⟨rfl, HZ.out.push hlast hby hlen HS5.out HB5.out HO5.out HGG.out HO15.out HO25.out⟩
    · skip
      go_wp2_with (fail)
      refine (RTwin_any A b c W1 (HBA.out W1 hS1.1) HNN.out (by omega)).mono ?_
      rintro r W2 ⟨A2, c2, rfl, ho, hk⟩
      have HO2 := Lib.hid (own_base ho hS1.1.size)
      have HPB2 := Lib.hid (HPB1.out.kept hk id)
      have HR2 := Lib.hid (hk.own HR1.out fun _ _ => id)
      have hS2 : Kept (fun k => k = p ∨ (Value.slice L hs.length lc).ownBlock = some k) w W2 ∧ ∃ v, Box W2 p 62 #[v, .int .i64 (N : Int)] := ⟨hS1.1.trans hk fun _ _ e => e.elim, _, HPB2.out⟩
      have HO1 := Lib.hid (hk.own HO1.out fun _ _ => id)
      clear ho hk HPB1 HR1
      go_wp2_with (fail)
      refine hK.out _ _ hS2 fun _ => ?_
      clear hK K hS1
      refine held_takeTo 41 (i := 17) (v := .agg #[.int .i64 (N : Int), .int .i64 f, .int .i64 t, .slice A1 b.length c1, .int .i64 a, .bool false, .slice A2 b.length c2]) rfl rfl (by kernel_rfl) (by kernel_rfl) (by kernel_rfl) (fun _ _ _ h => h) rfl hS2 (fun Wz hW => by go_simp) ?_
      simp only [List.setIfInBounds_toArray, List.set_cons_zero, List.set_cons_succ]
      refine held_two (i := 4) (j := 18) (by kernel_rfl) rfl rfl (fun K hK => ?_) (fun K hK => ?_)
      · skip
        have x0 : (W2).cell? ⟨p, 0, none⟩ = some (.slice L hs.length lc) := (HPB2.out.cell 0).trans rfl
        go_wp2_with (fail)
        refine hK.out _ _ hS2 fun _ => ?_
        clear hK K x0
        refine held_one (i := 18) (by kernel_rfl) rfl fun K hK => ?_
        have hS3 : Kept (fun k => k = p ∨ (Value.slice L hs.length lc).ownBlock = some k) w (W2.alloc (.cells #[.int .i64 (N : Int), .int .i64 f, .int .i64 t, .slice A1 b.length c1, .int .i64 a, .bool false, .slice A2 b.length c2] 79)) ∧ ∃ v, Box (W2.alloc (.cells #[.int .i64 (N : Int), .int .i64 f, .int .i64 t, .slice A1 b.length c1, .int .i64 a, .bool false, .slice A2 b.length c2] 79)) p 62 #[v, .int .i64 (N : Int)] := ⟨hS2.1.alloc _, _, HPB2.out.alloc _⟩
        go_wp2_with (fail)
        refine hK.out _ _ hS3 fun _ => ?_
        clear hK K
        refine held_one (i := 19) (by kernel_rfl) rfl fun K hK => ?_
        refine wpList_append_new eltHeld rfl _ _ rfl 0 _ hs.length (hes hs) rfl HR2.out 1 1 rfl rfl rfl (by omega) (Nat.zero_le _) ?_
        intro L3 lc3 W3 HO3 HK3 HG3
        have HPB3 := Lib.hid (HPB2.out.kept HK3.out fun e => own_box_ne HR2.out HPB2.out hty e)
        have HO13 := Lib.hid (HK3.out.own HO1.out fun k e e2 => own_kinds HO1.out HR2.out (by decide) k e e2)
        have HO23 := Lib.hid (HK3.out.own HO2.out fun k e e2 => own_kinds HO2.out HR2.out (by decide) k e e2)
        have hS4 : Kept (fun k => k = p ∨ (Value.slice L hs.length lc).ownBlock = some k) w W3 ∧ ∃ v, Box W3 p 62 #[v, .int .i64 (N : Int)] := ⟨hS2.1.trans HK3.out fun k _ e => .inr e, _, HPB3.out⟩
        have HGG := Lib.hid (show Goes w (.slice L hs.length lc) (.slice L3 (hs.length + 1) lc3) from fun k e => (HG3.out k e).imp id fun e2 => Nat.le_trans hS2.1.size e2)
        clear HK3 HG3 HR2 HPB2 HO1 HO2
        go_wp2_with (fail)
        refine hK.out _ _ hS4 fun _ => ?_
        clear hK K hS2 hS3
        refine held_one (i := 20) (by kernel_rfl) rfl fun K hK => ?_
        go_wp2_with (fail)
        refine hK.out _ _ hS4 fun _ => ?_
        clear hK K
        refine held_one (i := 21) (by kernel_rfl) rfl fun K hK => ?_
        go_wp2_with (fail)
        refine hK.out _ _ hS4 fun _ => ?_
        clear hK K
        refine held_one (i := 22) (by kernel_rfl) rfl fun K hK => ?_
        have x0 : W3.cell? ⟨p, 0, none⟩ = some (.slice L hs.length lc) := (HPB3.out.cell 0).trans rfl
        have f0 := HPB3.out.frozen 0
        have hb5 : Box (W3.setCell ⟨p, 0, none⟩ (.slice L3 (hs.length + 1) lc3)) p 62 #[.slice L3 (hs.length + 1) lc3, .int .i64 (N : Int)] := HPB3.out.set 0 _
        have hk5 := (Kept.refl (fun k => k = p) W3).at (g := p) 0 (.slice L3 (hs.length + 1) lc3) (.inl rfl)
        have hS5 : Kept (fun k => k = p ∨ (Value.slice L hs.length lc).ownBlock = some k) w (W3.setCell ⟨p, 0, none⟩ (.slice L3 (hs.length + 1) lc3)) ∧ ∃ v, Box (W3.setCell ⟨p, 0, none⟩ (.slice L3 (hs.length + 1) lc3)) p 62 #[v, .int .i64 (N : Int)] := ⟨hS4.1.trans hk5 fun k _ e => .inl e, _, hb5⟩
        have HB5 := Lib.hid hb5
        have HO5 := Lib.hid (hk5.own HO3.out fun k e e2 => own_box_ne HO3.out HPB3.out hty (by rw [e, e2]))
        have HO15 := Lib.hid (hk5.own HO13.out fun k e e2 => own_box_ne HO13.out HPB3.out (by decide) (by rw [e, e2]))
        have HO25 := Lib.hid (hk5.own HO23.out fun k e e2 => own_box_ne HO23.out HPB3.out (by decide) (by rw [e, e2]))
        clear hb5 hk5 HO3 HO13 HO23 HPB3
        go_wp2_with (fail)
        refine hK.out _ _ hS5 fun _ => ?_
        clear hK K hS4 x0 f0
        refine wpAnyH_done (by kernel_rfl) ?_ _
        generalize W3.setCell ⟨p, 0, none⟩ (.slice L3 (hs.length + 1) lc3) = W5 at hS5 HB5 HO5 HO15 HO25 ⊢
        have x1 : W5.cell? ⟨p, 1, none⟩ = some (.int .i64 (N : Int)) := (HB5.out.cell 1).trans rfl
        have HS5 := Lib.hid hS5.1
        clear hS5
        go_wp2_with (fail)
        go_ret2
        have hN := HN.out
        subst hN
        exact ⟨rfl, HZ.out.push hlast hby hlen HS5.out HB5.out HO5.out HGG.out HO15.out HO25.out⟩
      · skip
        have hS3 : Kept (fun k => k = p ∨ (Value.slice L hs.length lc).ownBlock = some k) w (W2.alloc (.cells #[.int .i64 (N : Int), .int .i64 f, .int .i64 t, .slice A1 b.length c1, .int .i64 a, .bool false, .slice A2 b.length c2] 79)) ∧ ∃ v, Box (W2.alloc (.cells #[.int .i64 (N : Int), .int .i64 f, .int .i64 t, .slice A1 b.length c1, .int .i64 a, .bool false, .slice A2 b.length c2] 79)) p 62 #[v, .int .i64 (N : Int)] := ⟨hS2.1.alloc _, _, HPB2.out.alloc _⟩
        go_wp2_with (fail)
        refine hK.out _ _ hS3 fun _ => ?_
        clear hK K
        refine held_one (i := 4) (by kernel_rfl) rfl fun K hK => ?_
        have x0 : (W2.alloc (.cells #[.int .i64 (N : Int), .int .i64 f, .int .i64 t, .slice A1 b.length c1, .int .i64 a, .bool false, .slice A2 b.length c2] 79)).cell? ⟨p, 0, none⟩ = some (.slice L hs.length lc) := ((HPB2.out.alloc _).cell 0).trans rfl
        go_wp2_with (fail)
        refine hK.out _ _ hS3 fun _ => ?_
        clear hK K x0
        refine held_one (i := 19) (by kernel_rfl) rfl fun K hK => ?_
        refine wpList_append_new eltHeld rfl _ _ rfl 0 _ hs.length (hes hs) rfl HR2.out 1 1 rfl rfl rfl (by omega) (Nat.zero_le _) ?_
        intro L3 lc3 W3 HO3 HK3 HG3
        have HPB3 := Lib.hid (HPB2.out.kept HK3.out fun e => own_box_ne HR2.out HPB2.out hty e)
        have HO13 := Lib.hid (HK3.out.own HO1.out fun k e e2 => own_kinds HO1.out HR2.out (by decide) k e e2)
        have HO23 := Lib.hid (HK3.out.own HO2.out fun k e e2 => own_kinds HO2.out HR2.out (by decide) k e e2)
        have hS4 : Kept (fun k => k = p ∨ (Value.slice L hs.length lc).ownBlock = some k) w W3 ∧ ∃ v, Box W3 p 62 #[v, .int .i64 (N : Int)] := ⟨hS2.1.trans HK3.out fun k _ e => .inr e, _, HPB3.out⟩
        have HGG := Lib.hid (show Goes w (.slice L hs.length lc) (.slice L3 (hs.length + 1) lc3) from fun k e => (HG3.out k e).imp id fun e2 => Nat.le_trans hS2.1.size e2)
        clear HK3 HG3 HR2 HPB2 HO1 HO2
        go_wp2_with (fail)
        refine hK.out _ _ hS4 fun _ => ?_
        clear hK K hS2 hS3
        refine held_one (i := 20) (by kernel_rfl) rfl fun K hK => ?_
        go_wp2_with (fail)
        refine hK.out _ _ hS4 fun _ => ?_
        clear hK K
        refine held_one (i := 21) (by kernel_rfl) rfl fun K hK => ?_
        go_wp2_with (fail)
        refine hK.out _ _ hS4 fun _ => ?_
        clear hK K
        refine held_one (i := 22) (by kernel_rfl) rfl fun K hK => ?_
        have x0 : W3.cell? ⟨p, 0, none⟩ = some (.slice L hs.length lc) := (HPB3.out.cell 0).trans rfl
        have f0 := HPB3.out.frozen 0
        have hb5 : Box (W3.setCell ⟨p, 0, none⟩ (.slice L3 (hs.length + 1) lc3)) p 62 #[.slice L3 (hs.length + 1) lc3, .int .i64 (N : Int)] := HPB3.out.set 0 _
        have hk5 := (Kept.refl (fun k => k = p) W3).at (g := p) 0 (.slice L3 (hs.length + 1) lc3) (.inl rfl)
        have hS5 : Kept (fun k => k = p ∨ (Value.slice L hs.length lc).ownBlock = some k) w (W3.setCell ⟨p, 0, none⟩ (.slice L3 (hs.length + 1) lc3)) ∧ ∃ v, Box (W3.setCell ⟨p, 0, none⟩ (.slice L3 (hs.length + 1) lc3)) p 62 #[v, .int .i64 (N : Int)] := ⟨hS4.1.trans hk5 fun k _ e => .inl e, _, hb5⟩
        have HB5 := Lib.hid hb5
        have HO5 := Lib.hid (hk5.own HO3.out fun k e e2 => own_box_ne HO3.out HPB3.out hty (by rw [e, e2]))
        have HO15 := Lib.hid (hk5.own HO13.out fun k e e2 => own_box_ne HO13.out HPB3.out (by decide) (by rw [e, e2]))
        have HO25 := Lib.hid (hk5.own HO23.out fun k e e2 => own_box_ne HO23.out HPB3.out (by decide) (by rw [e, e2]))
        clear hb5 hk5 HO3 HO13 HO23 HPB3
        go_wp2_with (fail)
        refine hK.out _ _ hS5 fun _ => ?_
        clear hK K hS4 x0 f0
        refine wpAnyH_done (by kernel_rfl) ?_ _
        generalize W3.setCell ⟨p, 0, none⟩ (.slice L3 (hs.length + 1) lc3) = W5 at hS5 HB5 HO5 HO15 HO25 ⊢
        have x1 : W5.cell? ⟨p, 1, none⟩ = some (.int .i64 (N : Int)) := (HB5.out.cell 1).trans rfl
        have HS5 := Lib.hid hS5.1
        clear hS5
        go_wp2_with (fail)
        go_ret2
        have hN := HN.out
        subst hN
        exact ⟨rfl, HZ.out.push hlast hby hlen HS5.out HB5.out HO5.out HGG.out HO15.out HO25.out⟩
end Go.Proofs.Ytopcogogpbcbhaa
