/- The walk of LogTwo: it returns true, whatever the two scripts. Conditions: they lie in memory. · The functions that LogBeyonds hands to its iterator. Conditions: both logs, the variables and what the iterator goes through lie in memory. · The walk of LogBeyonds: it returns true, whatever the scripts, the vector and the number. Conditions: they lie in memory. -/
import Derived.Test.YtnfehkncfjgeeaaPG
namespace Go.Proofs.Ytnfehkncfjgeeaa
open Go Go.RowKit

/-- Two logs and the document's two, each in its variable. -/
structure Tw (w : World) (p g : Nat) (L : Lg) (R : RLg) (q h : Nat) (M : Lg) (T : RLg) (X : World) : Prop where
  a : Both w p L R X
  b : Both w q M T X
  x : Box X g 35 R.c
  y : Box X h 35 T.c
  gx : w.heap.size ≤ g
  gy : w.heap.size ≤ h
  ne : p ≠ q
  gh : g ≠ h
  ap1 : Apart L.oV M.oV
  ap2 : Apart L.oV T.oV
  ap3 : Apart M.oV R.oV
section
variable {w X X1 X2 : World} {p g q h : Nat} {L L' M : Lg} {R R' T : RLg}
theorem Tw.swap (z : Tw w p g L R q h M T X) : Tw w q h M T p g L R X := ⟨z.b, z.a, z.y, z.x, z.gy, z.gx, fun e => z.ne e.symm, fun e => z.gh e.symm, z.ap1.symm, z.ap3, z.ap2⟩
theorem Tw.fresh (z : Tw w p g L R q h M T X) (hk : Kept (fun _ => False) X X1) : Tw w p g L R q h M T X1 := ⟨z.a.fresh hk, z.b.fresh hk, z.x.kept hk id, z.y.kept hk id, z.gx, z.gy, z.ne, z.gh, z.ap1, z.ap2, z.ap3⟩
theorem Tw.step (z : Tw w p g L R q h M T X) (hb : Both w p L' R' X1) (hk : Kept (fun k => k = p ∨ L.oV.ownBlock = some k) X X1) (hg : Goes X L.oV L'.oV) (hgr : Goes X R.oV R'.oV) (hx : Box X2 g 35 R'.c) (hk2 : Kept (fun k => k = g) X1 X2) : Tw w p g L' R' q h M T X2 := by
  have hx1 := z.a.box z.x (by decide) (by decide) hk
  have hy1 := z.a.box z.y (by decide) (by decide) hk
  have hb1 : Both w q M T X1 := ⟨⟨z.b.l.l.stays z.a.l.l hk z.ne z.ap1, hb.l.k, z.b.l.ge, z.b.l.ov⟩, z.b.r.stays z.a.l z.ap2 hk, z.b.ap, z.b.says⟩
  refine ⟨hb.other hx1 (by decide) (by decide) (by decide) (by decide) hk2 z.gx, hb1.other hx1 (by decide) (by decide) (by decide) (by decide) hk2 z.gx, hx, hy1.kept hk2 (fun e => z.gh e.symm), z.gx, z.gy, z.ne, z.gh, fun k h1 h2 => ?_, z.ap2.goes z.b.r hg, z.ap3.goesR z.b.l hgr⟩
  rcases hg k h1 with e | e
  · exact z.ap1 k e h2
  · have := (z.b.l.l.o.lt k h2).2; omega
theorem Tw.cells (z : Tw w p g L R q h M T X) : (X.cell? ⟨g, 0, none⟩ = some (.slice R.bA R.base.length R.bc) ∧ X.cell? ⟨g, 1, none⟩ = some (.slice R.oA R.ops.length R.oc)) ∧ X.cell? ⟨h, 0, none⟩ = some (.slice T.bA T.base.length T.bc) ∧ X.cell? ⟨h, 1, none⟩ = some (.slice T.oA T.ops.length T.oc) :=
  ⟨⟨by simpa [RLg.c] using z.x.cell 0, by simpa [RLg.c] using z.x.cell 1⟩, by simpa [RLg.c] using z.y.cell 0, by simpa [RLg.c] using z.y.cell 1⟩
end
def Lg.zero : Lg := ⟨[], [], [], none, 0, none, 0, none, 0⟩
theorem LogAt.zero (w : World) (t : TypeId) (ht : t = 51) : LogAt (w.alloc (.cells #[.slice none 0 0, .slice none 0 0, .slice none 0 0] t)) w.heap.size Lg.zero := by
  subst ht
  exact ⟨Box.new _ _ _, World.ownsRow_nil _ _ _ _, World.ownsRow_nil _ _ _ _, World.ownsRow_nil _ _ _ _, fun x h => absurd h (by simp [Lg.zero]), fun x h => absurd h (by simp [Lg.zero]), by simp [Lg.zero], by simp [Lg.zero], by simp [Lg.zero]⟩
theorem zero_good : Pl.Good ⟨[], [], []⟩ := Pl.Good.new (by kernel_rfl)
theorem zero_says (L : Lg) (h1 : L.base = []) (h2 : L.all = []) (h3 : L.ops = []) : RSays RLg.zero L.d := ⟨by unfold Lg.d; rw [h1, h2, h3]; exact zero_good, h1.symm, by unfold Lg.d; rw [h3]; rfl⟩

set_option maxRecDepth 100000 in
set_option maxHeartbeats 12800000 in
theorem Two_walk (A : Option Addr) (l : List Stp) (c : Nat) (B : Option Addr) (m : List Stp) (d : Nat) (w : World) (hs : ScrArg w A l) (ht : ScrArg w B m) (hl : l.length ≤ 4611686018427387904) (hm : m.length ≤ 4611686018427387904) :
    Calls Try.prog 4 #[.slice A l.length c, .slice B m.length d] w (BoolPost w true) := by
  have HS := Lib.hid hs
  have HT := Lib.hid ht
  clear hs ht
  have hfin : ∀ W, Kept (fun _ => False) w W → Calls Try.prog 11 #[] W fun e W' => e = .returned (.bool true) ∧ Kept (fun _ => False) w W' := fun W hk => (known_any W).mono fun e W' ⟨h1, h2⟩ => ⟨h1, hk.trans h2 fun _ _ e => e⟩
  have HFIN := Lib.hid hfin
  clear hfin
  go_enter Try.func4, Try.ntmps4
  go_wp2_with (fail)
  refine (much_any A l c none 0 0 w HS.out.s.steps hl (by decide)).mono ?_
  unfold BoolPost
  rintro e w1 ⟨rfl, hk1⟩
  have HK1 := Lib.hid hk1
  clear hk1
  cases hm1 : muchB l 0 with
  | true =>
    clear hm1
    go_wp2_with (fail)
    refine (HFIN.out _ HK1.out).mono ?_
    rintro e w2 ⟨rfl, hk2⟩
    have HK2 := Lib.hid hk2
    clear hk2
    go_wp2
    go_ret
    exact ⟨rfl, HK2.out⟩
  | false =>
  obtain ⟨hok, hl200, -⟩ := HS.out.ok hm1
  have HOK := Lib.hid hok
  clear hm1 hok
  go_wp2_with (fail)
  refine (much_any B m d none 0 0 w1 (HT.out.s.steps.fresh HK1.out) hm (by decide)).mono ?_
  unfold BoolPost
  rintro e w2 ⟨rfl, hk2⟩
  have HK2 := Lib.hid (HK1.out.trans hk2 fun _ _ e => e)
  clear hk2 HK1
  cases hm1 : muchB m 0 with
  | true =>
    clear hm1
    go_wp2_with (fail)
    refine (HFIN.out _ HK2.out).mono ?_
    rintro e w3 ⟨rfl, hk3⟩
    have HK3 := Lib.hid hk3
    clear hk3
    go_wp2
    go_ret
    exact ⟨rfl, HK3.out⟩
  | false =>
  obtain ⟨hok, hm200, -⟩ := HT.out.ok hm1
  have HOM := Lib.hid hok
  clear hm1 hok
  go_wp2_with (fail)
  refine (New_anyX none [] 0 w2 DotsAt.nil (by decide)).mono ?_
  unfold NewPostX
  intro e w3 hnew
  rw [if_pos (by kernel_rfl)] at hnew
  obtain ⟨p, L, rfl, hlg, hb0, ha0, ho0, hoA, hge, -, -, hk3⟩ := hnew
  have HL := Lib.hid (LogOf.made hlg (HK2.out.trans hk3 fun _ _ e => e) (Nat.le_trans HK2.out.size hge) hoA)
  have HSY := Lib.hid (zero_says L hb0 ha0 ho0)
  have HO0 := Lib.hid ho0
  have HOA := Lib.hid hoA
  have HKL := Lib.hid (show Kept (fun _ => False) w3 (((w3.alloc (.cells #[.slice none 0 0, .slice none 0 0, .slice none 0 0] 51)).alloc (.cells #[.slice none 0 0, .slice none 0 0] 35)).alloc (.cells #[.slice none 0 0, .slice none 0 0] 35)) from (((Kept.refl _ _).alloc _).alloc _).alloc _)
  have HLZ := Lib.hid (LogAt.zero w3 _ rfl)
  have HBX := Lib.hid (((Box.new (w3.alloc (.cells #[.slice none 0 0, .slice none 0 0, .slice none 0 0] 51)) 35 #[.slice none 0 0, .slice none 0 0]).at_eq (show _ = w3.heap.size + 1 by simp)).alloc (.cells #[.slice none 0 0, .slice none 0 0] 35))
  have HBY := Lib.hid ((Box.new ((w3.alloc (.cells #[.slice none 0 0, .slice none 0 0, .slice none 0 0] 51)).alloc (.cells #[.slice none 0 0, .slice none 0 0] 35)) 35 #[.slice none 0 0, .slice none 0 0]).at_eq (show _ = w3.heap.size + 2 by simp))
  have HPL := Lib.hid (HL.out.l.box.lt)
  clear hlg hb0 ha0 ho0 hoA hge hk3 HK2
  go_wp2_with (fail)
  have htw : Tw w p (w3.heap.size + 1) L RLg.zero w3.heap.size (w3.heap.size + 2) Lg.zero RLg.zero (((w3.alloc (.cells #[.slice none 0 0, .slice none 0 0, .slice none 0 0] 51)).alloc (.cells #[.slice none 0 0, .slice none 0 0] 35)).alloc (.cells #[.slice none 0 0, .slice none 0 0] 35)) := by
    have hs := HL.out.k.size
    have hpl := HPL.out
    have hno : ∀ {v : Value}, Apart L.oV v := fun k e => by unfold Lg.oV at e; rw [HOA.out] at e; cases e
    have hno' : ∀ {v : Value}, Apart Lg.zero.oV v := fun k e => by cases e
    have hk := HL.out.k.trans HKL.out fun _ _ e => e
    refine ⟨⟨HL.out.fresh HKL.out, ROf.zero hk, hno, HSY.out⟩, ⟨⟨HLZ.out.fresh (((Kept.refl _ _).alloc _).alloc _), hk, hs, fun k e => by cases e⟩, ROf.zero hk, hno', zero_says Lg.zero rfl rfl rfl⟩, HBX.out, HBY.out, by omega, by omega, by omega, by omega, hno, hno, hno'⟩
  have HTW := Lib.hid htw
  have HLL := Lib.hid (show L.ops.length ≤ 0 by rw [HO0.out]; simp)
  have HMM := Lib.hid (show Lg.zero.ops.length ≤ 0 by simp [Lg.zero])
  clear htw HL HSY HO0 HOA HKL HLZ HBX HBY HPL
  generalize ((w3.alloc (.cells #[.slice none 0 0, .slice none 0 0, .slice none 0 0] 51)).alloc (.cells #[.slice none 0 0, .slice none 0 0] 35)).alloc (.cells #[.slice none 0 0, .slice none 0 0] 35) = w4 at HTW ⊢
  obtain ⟨q, hq⟩ : ∃ q, w3.heap.size = q := ⟨_, rfl⟩
  rw [hq] at HTW ⊢
  clear hq
  go_loopw [10] (fun i wr => ∃ (k : Nat) (L : Lg) (R : RLg) (M : Lg) (T : RLg), i = .int .i64 k ∧ k ≤ 400 ∧ L.ops.length ≤ k ∧ M.ops.length ≤ k ∧ (k ≤ l.length ∨ k ≤ m.length) ∧ Tw w p (q + 1) L R q (q + 2) M T wr) (fun i _ => 400 - (intOf i).toNat)
  case atStart => exact ⟨0, L, RLg.zero, Lg.zero, RLg.zero, rfl, by omega, HLL.out, HMM.out, .inl (Nat.zero_le _), HTW.out⟩
  case round =>
    obtain ⟨k, L, R, M, T, rfl, hk, hlk, hmk, hkk, htw⟩ := hrel
    have HZ := Lib.hid htw
    clear HTW HLL HMM
    by_cases hlt : k < l.length ∨ k < m.length
    · clear htw
      have hk200 : k < 200 := by omega
      by_cases hl1 : k < l.length
      · obtain ⟨ad, rfl, -, -, -⟩ := HS.out.s.steps k hl1
        have HOKK := Lib.hid (HOK.out l[k] (List.getElem_mem hl1))
        have hk0 : (0 : Int) ≤ (k : Int) := by omega
        have hl2 : (k : Int) < (l.length : Int) := by omega
        have hl3 : ¬ ((l.length : Int) ≤ (k : Int)) := by omega
        go_upto_region 15 with (fail)
        have HZ6 := Lib.hid (HZ.out.fresh (Kept.refl (fun _ => False) wr).drew)
        clear HZ
        as_aux_lemma =>
          refine wp_region_held_drew (S := fun Wz => Kept (fun _ => False) w Wz) (by kernel_rfl) HZ6.out.a.l.k fun hS => ?_
          refine held_takeTo 49 (i := 0) (v := .pointer (some ⟨p, 0, none⟩)) rfl rfl (by kernel_rfl) (by kernel_rfl) (by kernel_rfl) (fun _ _ _ h => h) rfl hS (fun Wz hW => by go_simp) ?_
          simp only [List.setIfInBounds_toArray, List.set_cons_zero, List.set_cons_succ]
          refine held_takeTo 51 (i := 2) (v := .slice (some ad) l.length c) rfl rfl (by kernel_rfl) (by kernel_rfl) (by kernel_rfl) (fun _ _ _ h => h) rfl hS (fun Wz hW => by go_simp) ?_
          simp only [List.setIfInBounds_toArray, List.set_cons_zero, List.set_cons_succ]
          refine held_takeTo 52 (i := 3) (v := .int .i64 k) rfl rfl (by kernel_rfl) (by kernel_rfl) (by kernel_rfl) (fun _ _ _ h => h) rfl hS (fun Wz hW => by go_simp) ?_
          simp only [List.setIfInBounds_toArray, List.set_cons_zero, List.set_cons_succ]
          refine held_takeTo 53 (i := 4) (v := .pointer (some (ad.add (k * 13)))) rfl rfl (by kernel_rfl) (by kernel_rfl) (by kernel_rfl) (fun _ _ _ h => h) rfl hS (fun Wz hW => by go_simp) ?_
          simp only [List.setIfInBounds_toArray, List.set_cons_zero, List.set_cons_succ]
          refine held_takeTo 54 (i := 5) (v := .agg l[k].c) rfl rfl (by kernel_rfl) (by kernel_rfl) (by kernel_rfl) (fun _ _ _ h => h) rfl hS (fun Wz hW => HS.out.s.steps.load hW hl1 _ _ rfl ad rfl rfl) ?_
          simp only [List.setIfInBounds_toArray, List.set_cons_zero, List.set_cons_succ]
          obtain ⟨c0, c1⟩ := (show _ ∧ _ from (HZ6.out).cells.1)
          refine held_one (i := 1) (by kernel_rfl) rfl fun K hK => ?_
          go_wp2_with (fail)
          refine hK.out _ _ hS fun _ => ?_
          clear hK K
          clear c0 c1
          refine held_one (i := 6) (by kernel_rfl) rfl fun K hK => ?_
          go_wp2_with (fail)
          refine (step_any w _ p L R l[k] (HZ6.out).a HOKK.out (by omega)).mono ?_
          rintro e w11 ⟨L', R', rfl, hd', hbo, hk11, hg11, hr11⟩
          have hS11 := hbo.l.k
          have HLK := Lib.hid (step_len' L L' _ _ _ hd' hlk)
          have HNX := Lib.hid (fun (X2 : World) hx hk2 => (HZ6.out).step hbo hk11 hg11 hr11 (X2 := X2) hx hk2)
          have HBX := Lib.hid ((HZ6.out).a.box (HZ6.out).x (by decide) (by decide) hk11)
          clear hd' hbo hk11 hg11 hr11 HZ6
          go_wp2_with (fail)
          refine hK.out _ _ hS11 fun _ => ?_
          clear hK K
          refine held_takeTo 48 (i := 7) (v := .tuple #[.agg R'.c, .bool true]) rfl rfl (by kernel_rfl) (by kernel_rfl) (by kernel_rfl) (fun _ _ _ h => h) rfl hS11 (fun Wz hW => by go_simp) ?_
          simp only [List.setIfInBounds_toArray, List.set_cons_zero, List.set_cons_succ]
          refine held_takeTo 56 (i := 8) (v := .agg R'.c) rfl rfl (by kernel_rfl) (by kernel_rfl) (by kernel_rfl) (fun _ _ _ h => h) rfl hS11 (fun Wz hW => by go_simp) ?_
          simp only [List.setIfInBounds_toArray, List.set_cons_zero, List.set_cons_succ]
          refine held_takeTo 57 (i := 9) (v := .bool true) rfl rfl (by kernel_rfl) (by kernel_rfl) (by kernel_rfl) (fun _ _ _ h => h) rfl hS11 (fun Wz hW => by go_simp) ?_
          simp only [List.setIfInBounds_toArray, List.set_cons_zero, List.set_cons_succ]
          refine held_one (i := 10) (by kernel_rfl) rfl fun K hK => ?_
          refine wpList_store_box rfl 35 _ _ rfl (q + 1) (RLg.c R') rfl rfl 35 _ HBX.out (size_RL.trans rfl) rfl (RLg.c_one _) ?_
          intro w13 HB13 hk13
          have hz13 := HNX.out w13 HB13.out hk13
          have HZ13 := Lib.hid (hz13)
          have hS13 : Kept (fun _ => False) w w13 := hz13.a.l.k
          clear hk13 hz13 HB13 HNX HBX
          refine hK.out _ _ hS13 fun _ => ?_
          clear hK K
          refine held_one (i := 11) (by kernel_rfl) rfl fun K hK => ?_
          go_wp2_with (fail)
          refine hK.out _ _ hS13 fun _ => ?_
          clear hK K
          refine wpAnyH_done (by kernel_rfl) ?_ _
          clear hS hS11 hS13
          by_cases hm1 : k < m.length
          · obtain ⟨bd, rfl, -, -, -⟩ := HT.out.s.steps k hm1
            have HOKM := Lib.hid (HOM.out m[k] (List.getElem_mem hm1))
            have hm2 : (k : Int) < (m.length : Int) := by omega
            have hm3 : ¬ ((m.length : Int) ≤ (k : Int)) := by omega
            go_upto_region 17 with (fail)
            have HZ14 := Lib.hid (HZ13.out.fresh (Kept.refl (fun _ => False) w13).drew)
            clear HZ13
            have HLK1 := HLK
            clear HLK
            obtain ⟨L1, hL1⟩ : ∃ x, x = L' := ⟨_, rfl⟩
            obtain ⟨R1, hR1⟩ : ∃ x, x = R' := ⟨_, rfl⟩
            subst hL1 hR1
            as_aux_lemma =>
              refine wp_region_held_drew (S := fun Wz => Kept (fun _ => False) w Wz) (by kernel_rfl) HZ14.out.a.l.k fun hS => ?_
              refine held_takeTo 63 (i := 0) (v := .pointer (some ⟨q, 0, none⟩)) rfl rfl (by kernel_rfl) (by kernel_rfl) (by kernel_rfl) (fun _ _ _ h => h) rfl hS (fun Wz hW => by go_simp) ?_
              simp only [List.setIfInBounds_toArray, List.set_cons_zero, List.set_cons_succ]
              refine held_takeTo 65 (i := 2) (v := .slice (some bd) m.length d) rfl rfl (by kernel_rfl) (by kernel_rfl) (by kernel_rfl) (fun _ _ _ h => h) rfl hS (fun Wz hW => by go_simp) ?_
              simp only [List.setIfInBounds_toArray, List.set_cons_zero, List.set_cons_succ]
              refine held_takeTo 66 (i := 3) (v := .int .i64 k) rfl rfl (by kernel_rfl) (by kernel_rfl) (by kernel_rfl) (fun _ _ _ h => h) rfl hS (fun Wz hW => by go_simp) ?_
              simp only [List.setIfInBounds_toArray, List.set_cons_zero, List.set_cons_succ]
              refine held_takeTo 67 (i := 4) (v := .pointer (some (bd.add (k * 13)))) rfl rfl (by kernel_rfl) (by kernel_rfl) (by kernel_rfl) (fun _ _ _ h => h) rfl hS (fun Wz hW => by go_simp) ?_
              simp only [List.setIfInBounds_toArray, List.set_cons_zero, List.set_cons_succ]
              refine held_takeTo 68 (i := 5) (v := .agg m[k].c) rfl rfl (by kernel_rfl) (by kernel_rfl) (by kernel_rfl) (fun _ _ _ h => h) rfl hS (fun Wz hW => HT.out.s.steps.load hW hm1 _ _ rfl bd rfl rfl) ?_
              simp only [List.setIfInBounds_toArray, List.set_cons_zero, List.set_cons_succ]
              obtain ⟨c0, c1⟩ := (show _ ∧ _ from (HZ14.out.swap).cells.1)
              refine held_one (i := 1) (by kernel_rfl) rfl fun K hK => ?_
              go_wp2_with (fail)
              refine hK.out _ _ hS fun _ => ?_
              clear hK K
              clear c0 c1
              refine held_one (i := 6) (by kernel_rfl) rfl fun K hK => ?_
              go_wp2_with (fail)
              refine (step_any w _ q M T m[k] (HZ14.out.swap).a HOKM.out (by omega)).mono ?_
              rintro e w16 ⟨M', T', rfl, hd', hbo, hk11, hg11, hr11⟩
              have hS11 := hbo.l.k
              have HMK := Lib.hid (step_len' M M' _ _ _ hd' hmk)
              have HNX := Lib.hid (fun (X2 : World) hx hk2 => (HZ14.out.swap).step hbo hk11 hg11 hr11 (X2 := X2) hx hk2)
              have HBX := Lib.hid ((HZ14.out.swap).a.box (HZ14.out.swap).x (by decide) (by decide) hk11)
              clear hd' hbo hk11 hg11 hr11 HZ14
              go_wp2_with (fail)
              refine hK.out _ _ hS11 fun _ => ?_
              clear hK K
              refine held_takeTo 62 (i := 7) (v := .tuple #[.agg T'.c, .bool true]) rfl rfl (by kernel_rfl) (by kernel_rfl) (by kernel_rfl) (fun _ _ _ h => h) rfl hS11 (fun Wz hW => by go_simp) ?_
              simp only [List.setIfInBounds_toArray, List.set_cons_zero, List.set_cons_succ]
              refine held_takeTo 70 (i := 8) (v := .agg T'.c) rfl rfl (by kernel_rfl) (by kernel_rfl) (by kernel_rfl) (fun _ _ _ h => h) rfl hS11 (fun Wz hW => by go_simp) ?_
              simp only [List.setIfInBounds_toArray, List.set_cons_zero, List.set_cons_succ]
              refine held_takeTo 71 (i := 9) (v := .bool true) rfl rfl (by kernel_rfl) (by kernel_rfl) (by kernel_rfl) (fun _ _ _ h => h) rfl hS11 (fun Wz hW => by go_simp) ?_
              simp only [List.setIfInBounds_toArray, List.set_cons_zero, List.set_cons_succ]
              refine held_one (i := 10) (by kernel_rfl) rfl fun K hK => ?_
              refine wpList_store_box rfl 35 _ _ rfl (q + 2) (RLg.c T') rfl rfl 35 _ HBX.out (size_RL.trans rfl) rfl (RLg.c_one _) ?_
              intro w17 HB13 hk13
              have hz13 := HNX.out w17 HB13.out hk13
              have HZ15 := Lib.hid (hz13.swap)
              have hS13 : Kept (fun _ => False) w w17 := hz13.a.l.k
              clear hk13 hz13 HB13 HNX HBX
              refine hK.out _ _ hS13 fun _ => ?_
              clear hK K
              refine held_one (i := 11) (by kernel_rfl) rfl fun K hK => ?_
              go_wp2_with (fail)
              refine hK.out _ _ hS13 fun _ => ?_
              clear hK K
              refine wpAnyH_done (by kernel_rfl) ?_ _
              clear hS hS11 hS13
              obtain ⟨⟨c0, c1⟩, -⟩ := HZ15.out.cells
              go_wp2_with (fail)
              refine (alike_any p L1 R1 _ HZ15.out.a.l.l HZ15.out.a.r.at HZ15.out.a.says).mono ?_
              unfold BoolPost
              rintro e w20 ⟨rfl, hk20⟩
              have HZ20 := Lib.hid (HZ15.out.fresh hk20)
              clear hk20 HZ15 c0 c1
              obtain ⟨-, c0, c1⟩ := HZ20.out.cells
              go_wp2_with (fail)
              refine (alike_any q M' T' _ HZ20.out.b.l.l HZ20.out.b.r.at HZ20.out.b.says).mono ?_
              unfold BoolPost
              rintro e w21 ⟨rfl, hk21⟩
              have HZ21 := Lib.hid (HZ20.out.fresh hk21)
              clear hk21 HZ20 c0 c1
              go_wp2_with (fail)
              go_roundw
              case rel => exact ⟨k + 1, L1, R1, M', T', by go_num, by omega, HLK1.out, HMK.out, by omega, HZ21.out⟩
              case measure => simp [intOf]; omega
          · have hm2 : ¬ ((k : Int) < (m.length : Int)) := by omega
            obtain ⟨⟨c0, c1⟩, -⟩ := HZ13.out.cells
            go_wp2_with (fail)
            refine (alike_any p L' R' _ HZ13.out.a.l.l HZ13.out.a.r.at HZ13.out.a.says).mono ?_
            unfold BoolPost
            rintro e w20 ⟨rfl, hk20⟩
            have HZ20 := Lib.hid (HZ13.out.fresh hk20)
            clear hk20 HZ13 c0 c1
            obtain ⟨-, c0, c1⟩ := HZ20.out.cells
            go_wp2_with (fail)
            refine (alike_any q M T _ HZ20.out.b.l.l HZ20.out.b.r.at HZ20.out.b.says).mono ?_
            unfold BoolPost
            rintro e w21 ⟨rfl, hk21⟩
            have HZ21 := Lib.hid (HZ20.out.fresh hk21)
            clear hk21 HZ20 c0 c1
            go_wp2_with (fail)
            go_roundw
            case rel => exact ⟨k + 1, L', R', M, T, by go_num, by omega, HLK.out, (by omega), by omega, HZ21.out⟩
            case measure => simp [intOf]; omega
      · have hl2 : ¬ ((k : Int) < (l.length : Int)) := by omega
        have hm1 : k < m.length := by omega
        obtain ⟨bd, rfl, -, -, -⟩ := HT.out.s.steps k hm1
        have HOKM := Lib.hid (HOM.out m[k] (List.getElem_mem hm1))
        have hk0 : (0 : Int) ≤ (k : Int) := by omega
        have hm2 : (k : Int) < (m.length : Int) := by omega
        have hm3 : ¬ ((m.length : Int) ≤ (k : Int)) := by omega
        go_upto_region 17 with (fail)
        have HZ14 := Lib.hid (HZ.out.fresh (Kept.refl (fun _ => False) wr).drew)
        clear HZ
        as_aux_lemma =>
          refine wp_region_held_drew (S := fun Wz => Kept (fun _ => False) w Wz) (by kernel_rfl) HZ14.out.a.l.k fun hS => ?_
          refine held_takeTo 63 (i := 0) (v := .pointer (some ⟨q, 0, none⟩)) rfl rfl (by kernel_rfl) (by kernel_rfl) (by kernel_rfl) (fun _ _ _ h => h) rfl hS (fun Wz hW => by go_simp) ?_
          simp only [List.setIfInBounds_toArray, List.set_cons_zero, List.set_cons_succ]
          refine held_takeTo 65 (i := 2) (v := .slice (some bd) m.length d) rfl rfl (by kernel_rfl) (by kernel_rfl) (by kernel_rfl) (fun _ _ _ h => h) rfl hS (fun Wz hW => by go_simp) ?_
          simp only [List.setIfInBounds_toArray, List.set_cons_zero, List.set_cons_succ]
          refine held_takeTo 66 (i := 3) (v := .int .i64 k) rfl rfl (by kernel_rfl) (by kernel_rfl) (by kernel_rfl) (fun _ _ _ h => h) rfl hS (fun Wz hW => by go_simp) ?_
          simp only [List.setIfInBounds_toArray, List.set_cons_zero, List.set_cons_succ]
          refine held_takeTo 67 (i := 4) (v := .pointer (some (bd.add (k * 13)))) rfl rfl (by kernel_rfl) (by kernel_rfl) (by kernel_rfl) (fun _ _ _ h => h) rfl hS (fun Wz hW => by go_simp) ?_
          simp only [List.setIfInBounds_toArray, List.set_cons_zero, List.set_cons_succ]
          refine held_takeTo 68 (i := 5) (v := .agg m[k].c) rfl rfl (by kernel_rfl) (by kernel_rfl) (by kernel_rfl) (fun _ _ _ h => h) rfl hS (fun Wz hW => HT.out.s.steps.load hW hm1 _ _ rfl bd rfl rfl) ?_
          simp only [List.setIfInBounds_toArray, List.set_cons_zero, List.set_cons_succ]
          obtain ⟨c0, c1⟩ := (show _ ∧ _ from (HZ14.out.swap).cells.1)
          refine held_one (i := 1) (by kernel_rfl) rfl fun K hK => ?_
          go_wp2_with (fail)
          refine hK.out _ _ hS fun _ => ?_
          clear hK K
          clear c0 c1
          refine held_one (i := 6) (by kernel_rfl) rfl fun K hK => ?_
          go_wp2_with (fail)
          refine (step_any w _ q M T m[k] (HZ14.out.swap).a HOKM.out (by omega)).mono ?_
          rintro e w16 ⟨M', T', rfl, hd', hbo, hk11, hg11, hr11⟩
          have hS11 := hbo.l.k
          have HMK := Lib.hid (step_len' M M' _ _ _ hd' hmk)
          have HNX := Lib.hid (fun (X2 : World) hx hk2 => (HZ14.out.swap).step hbo hk11 hg11 hr11 (X2 := X2) hx hk2)
          have HBX := Lib.hid ((HZ14.out.swap).a.box (HZ14.out.swap).x (by decide) (by decide) hk11)
          clear hd' hbo hk11 hg11 hr11 HZ14
          go_wp2_with (fail)
          refine hK.out _ _ hS11 fun _ => ?_
          clear hK K
          refine held_takeTo 62 (i := 7) (v := .tuple #[.agg T'.c, .bool true]) rfl rfl (by kernel_rfl) (by kernel_rfl) (by kernel_rfl) (fun _ _ _ h => h) rfl hS11 (fun Wz hW => by go_simp) ?_
          simp only [List.setIfInBounds_toArray, List.set_cons_zero, List.set_cons_succ]
          refine held_takeTo 70 (i := 8) (v := .agg T'.c) rfl rfl (by kernel_rfl) (by kernel_rfl) (by kernel_rfl) (fun _ _ _ h => h) rfl hS11 (fun Wz hW => by go_simp) ?_
          simp only [List.setIfInBounds_toArray, List.set_cons_zero, List.set_cons_succ]
          refine held_takeTo 71 (i := 9) (v := .bool true) rfl rfl (by kernel_rfl) (by kernel_rfl) (by kernel_rfl) (fun _ _ _ h => h) rfl hS11 (fun Wz hW => by go_simp) ?_
          simp only [List.setIfInBounds_toArray, List.set_cons_zero, List.set_cons_succ]
          refine held_one (i := 10) (by kernel_rfl) rfl fun K hK => ?_
          refine wpList_store_box rfl 35 _ _ rfl (q + 2) (RLg.c T') rfl rfl 35 _ HBX.out (size_RL.trans rfl) rfl (RLg.c_one _) ?_
          intro w17 HB13 hk13
          have hz13 := HNX.out w17 HB13.out hk13
          have HZ15 := Lib.hid (hz13.swap)
          have hS13 : Kept (fun _ => False) w w17 := hz13.a.l.k
          clear hk13 hz13 HB13 HNX HBX
          refine hK.out _ _ hS13 fun _ => ?_
          clear hK K
          refine held_one (i := 11) (by kernel_rfl) rfl fun K hK => ?_
          go_wp2_with (fail)
          refine hK.out _ _ hS13 fun _ => ?_
          clear hK K
          refine wpAnyH_done (by kernel_rfl) ?_ _
          clear hS hS11 hS13
          obtain ⟨⟨c0, c1⟩, -⟩ := HZ15.out.cells
          go_wp2_with (fail)
          refine (alike_any p L R _ HZ15.out.a.l.l HZ15.out.a.r.at HZ15.out.a.says).mono ?_
          unfold BoolPost
          rintro e w20 ⟨rfl, hk20⟩
          have HZ20 := Lib.hid (HZ15.out.fresh hk20)
          clear hk20 HZ15 c0 c1
          obtain ⟨-, c0, c1⟩ := HZ20.out.cells
          go_wp2_with (fail)
          refine (alike_any q M' T' _ HZ20.out.b.l.l HZ20.out.b.r.at HZ20.out.b.says).mono ?_
          unfold BoolPost
          rintro e w21 ⟨rfl, hk21⟩
          have HZ21 := Lib.hid (HZ20.out.fresh hk21)
          clear hk21 HZ20 c0 c1
          go_wp2_with (fail)
          go_roundw
          case rel => exact ⟨k + 1, L, R, M', T', by go_num, by omega, (by omega), HMK.out, by omega, HZ21.out⟩
          case measure => simp [intOf]; omega
    · have hl1 : ¬ ((k : Int) < (l.length : Int)) := by omega
      have hm1 : ¬ ((k : Int) < (m.length : Int)) := by omega
      have hk200 : k ≤ 200 := by omega
      obtain ⟨⟨c0, c1⟩, -⟩ := htw.cells
      clear htw
      go_wp2_with (fail)
      refine (all_any p L R wr HZ.out.a.l.l HZ.out.a.r.at HZ.out.a.says (by omega)).mono ?_
      unfold BoolPost
      rintro e w9 ⟨rfl, hk9⟩
      have HZ9 := Lib.hid (HZ.out.fresh hk9)
      clear hk9 HZ c0 c1
      obtain ⟨-, c0, c1⟩ := HZ9.out.cells
      go_wp2_with (fail)
      refine (all_any q M T w9 HZ9.out.b.l.l HZ9.out.b.r.at HZ9.out.b.says (by omega)).mono ?_
      unfold BoolPost
      rintro e w10 ⟨rfl, hk10⟩
      have HK9 := Lib.hid (HZ9.out.a.l.k.trans hk10 fun _ _ e => e)
      clear hk10 HZ9 c0 c1
      go_wp2_with (fail)
      refine (HFIN.out _ HK9.out).mono ?_
      rintro e w11 ⟨rfl, hk11⟩
      have HK10 := Lib.hid hk11
      clear hk11
      go_wp2_with (fail)
      go_ret
      exact ⟨rfl, HK10.out⟩
end Go.Proofs.Ytnfehkncfjgeeaa

namespace Go.Proofs.Ytnfehkncfjgeeaa
open Go Go.RowKit

/-- Where LogBeyonds' variables lie, and what does not change while its iterator goes on. -/
structure Bk where
  p : Nat
  b6 : Nat
  b7 : Nat
  b9 : Nat
  g : Nat
  b11 : Nat
  b13 : Nat
  b14 : Nat
  b15 : Nat
  B : Nat
  A2 : Option Addr
  m : List Stp
  c2 : Nat
  stop : Int
  A3 : Option Addr
  c3 : Nat
  zs : List Lop
  A4 : Option Addr
  c4 : Nat
  xs : List Lop
structure BkOk (w : World) (d : Bk) : Prop where
  n15 : d.b15 ≠ d.b7
  s11 : w.heap.size ≤ d.b11
  s15 : w.heap.size ≤ d.b15
  zat : ∀ z ∈ d.zs, z.At w
  xsm : ∀ x ∈ d.xs, x.o.Small
  map : d.zs.map (·.o) = d.xs.map (·.o)
  xl : d.xs.length ≤ 41
  ml : d.m.length ≤ 20
  scr : StepsAt w d.A2 d.m
  stp : ∀ s ∈ d.m, StepArg w s
def itV (B : Nat) : Value := .func (.func 51) #[] #[.pointer (some ⟨B, 0, none⟩)]
structure BeJ (w : World) (d : Bk) (k : Int) (L : Lg) (R : RLg) (X : World) : Prop where
  pl : PlAt w d.p d.g L R X
  v6 : Box X d.b6 24 #[.slice d.A2 d.m.length d.c2]
  v7 : Box X d.b7 3 #[.int .i64 d.stop]
  v9 : Box X d.b9 29 #[.pointer (some ⟨d.p, 0, none⟩)]
  v11 : Box X d.b11 4 #[.bool true]
  v13 : Box X d.b13 33 #[.slice d.A3 d.zs.length d.c3]
  v14 : Box X d.b14 56 #[itV d.B]
  v15 : Box X d.b15 3 #[.int .i64 k]
  zr : X.ownsRow 0 45 11 (.slice d.A3 d.zs.length d.c3) d.zs.length (lops d.zs)
  xb : Box X d.B 33 #[.slice d.A4 d.xs.length d.c4]
  xr : X.ownsRow 0 45 11 (.slice d.A4 d.xs.length d.c4) d.xs.length (lops d.xs)
  xo : ∀ x ∈ d.xs, x.Own X 0
  ap3 : Apart L.oV (.slice d.A3 d.zs.length d.c3)
  ap4 : Apart L.oV (.slice d.A4 d.xs.length d.c4)
section
variable {w X X' X1 X2 : World} {d : Bk} {k k' : Int} {L L' : Lg} {R R' : RLg} {b : Nat} {T : TypeId} {cs : Array Value}
theorem BeJ.fresh (h : BeJ w d k L R X) (hk : Kept (fun _ => False) X X') : BeJ w d k L R X' :=
  ⟨h.pl.fresh hk, h.v6.kept hk id, h.v7.kept hk id, h.v9.kept hk id, h.v11.kept hk id, h.v13.kept hk id, h.v14.kept hk id, h.v15.kept hk id, hk.own h.zr fun _ _ => id, h.xb.kept hk id, hk.own h.xr fun _ _ => id, fun x hx => (h.xo x hx).fresh hk, h.ap3, h.ap4⟩
theorem BeJ.it (h : BeJ w d k L R X) (ho : BkOk w d) : ItAt X d.B d.xs d.A4 d.c4 := ⟨h.xb, h.xr, fun x hx => (h.xo x hx).at, ho.xsm, by have := ho.xl; omega⟩
theorem BeJ.zrow (h : BeJ w d k L R X) (ho : BkOk w d) : RowAt X d.A3 d.c3 d.zs := ⟨h.zr, fun z hz => (ho.zat z hz).fresh h.pl.b.l.k⟩
theorem PlAt.other {p g : Nat} (h : PlAt w p g L R X) (hb : Box X b T cs) (h1 : 51 ≠ T) (h2 : 45 ≠ T) (h3 : 28 ≠ T) (h4 : 87 ≠ T) (h5 : 35 ≠ T) (hk : Kept (fun k => k = b) X X') (hg : w.heap.size ≤ b) : PlAt w p g L R X' :=
  ⟨h.b.other hb h1 h2 h3 h4 hk hg, h.x.kept hk (Box.ne h.x hb h5), h.ge⟩
theorem BeJ.set11 (h : BeJ w d k L R X) (ho : BkOk w d) : BeJ w d k L R (X.setCell ⟨d.b11, 0, none⟩ (.bool true)) := by
  have hk : Kept (fun k => k = d.b11) X (X.setCell ⟨d.b11, 0, none⟩ (.bool true)) := (Kept.refl _ _).at 0 _ (.inl rfl)
  have hN : ∀ {E : TypeId}, E ≠ 4 → NoKind X (fun k => k = d.b11) E := fun hne => NoKind.box h.v11 hne
  have hB : ∀ {g : Nat} {T : TypeId} {cs : Array Value}, Box X g T cs → T ≠ 4 → g ≠ d.b11 := fun hb hne => Box.ne hb h.v11 hne
  exact ⟨h.pl.other h.v11 (by decide) (by decide) (by decide) (by decide) (by decide) hk ho.s11, h.v6.kept hk (hB h.v6 (by decide)), h.v7.kept hk (hB h.v7 (by decide)), h.v9.kept hk (hB h.v9 (by decide)), h.v11.set 0 _, h.v13.kept hk (hB h.v13 (by decide)), h.v14.kept hk (hB h.v14 (by decide)), h.v15.kept hk (hB h.v15 (by decide)),
    hk.own_kind (hN (by decide)) h.zr, h.xb.kept hk (hB h.xb (by decide)), hk.own_kind (hN (by decide)) h.xr, fun x hx => (h.xo x hx).kept hk (hN (by decide)) (hN (by decide)), h.ap3, h.ap4⟩
theorem BeJ.set15 (h : BeJ w d k L R X) (ho : BkOk w d) (k' : Int) : BeJ w d k' L R (X.setCell ⟨d.b15, 0, none⟩ (.int .i64 k')) := by
  have hk : Kept (fun k => k = d.b15) X (X.setCell ⟨d.b15, 0, none⟩ (.int .i64 k')) := (Kept.refl _ _).at 0 _ (.inl rfl)
  have hN : ∀ {E : TypeId}, E ≠ 3 → NoKind X (fun k => k = d.b15) E := fun hne => NoKind.box h.v15 hne
  have hB : ∀ {g : Nat} {T : TypeId} {cs : Array Value}, Box X g T cs → T ≠ 3 → g ≠ d.b15 := fun hb hne => Box.ne hb h.v15 hne
  exact ⟨h.pl.other h.v15 (by decide) (by decide) (by decide) (by decide) (by decide) hk ho.s15, h.v6.kept hk (hB h.v6 (by decide)), h.v7.kept hk (fun e => ho.n15 e.symm), h.v9.kept hk (hB h.v9 (by decide)), h.v11.kept hk (hB h.v11 (by decide)), h.v13.kept hk (hB h.v13 (by decide)), h.v14.kept hk (hB h.v14 (by decide)), h.v15.set 0 _,
    hk.own_kind (hN (by decide)) h.zr, h.xb.kept hk (hB h.xb (by decide)), hk.own_kind (hN (by decide)) h.xr, fun x hx => (h.xo x hx).kept hk (hN (by decide)) (hN (by decide)), h.ap3, h.ap4⟩
/-- Another variable of int's type is written. -/
theorem BeJ.other (h : BeJ w d k L R X) (hb : Box X b 3 cs) (h7 : b ≠ d.b7) (h15 : b ≠ d.b15) (hk : Kept (fun k => k = b) X X') (hw : w.heap.size ≤ b) : BeJ w d k L R X' := by
  have hN : ∀ {E : TypeId}, E ≠ 3 → NoKind X (fun k => k = b) E := fun hne => NoKind.box hb hne
  have hB : ∀ {g : Nat} {T : TypeId} {cs : Array Value}, Box X g T cs → T ≠ 3 → g ≠ b := fun hb' hne => Box.ne hb' hb hne
  exact ⟨h.pl.other hb (by decide) (by decide) (by decide) (by decide) (by decide) hk hw, h.v6.kept hk (hB h.v6 (by decide)), h.v7.kept hk (fun e => h7 e.symm), h.v9.kept hk (hB h.v9 (by decide)), h.v11.kept hk (hB h.v11 (by decide)), h.v13.kept hk (hB h.v13 (by decide)), h.v14.kept hk (hB h.v14 (by decide)), h.v15.kept hk (fun e => h15 e.symm),
    hk.own_kind (hN (by decide)) h.zr, h.xb.kept hk (hB h.xb (by decide)), hk.own_kind (hN (by decide)) h.xr, fun x hx => (h.xo x hx).kept hk (hN (by decide)) (hN (by decide)), h.ap3, h.ap4⟩
theorem BeJ.step (h : BeJ w d k L R X) (hb : Both w d.p L' R' X1) (hk : Kept (fun k => k = d.p ∨ L.oV.ownBlock = some k) X X1) (hg : Goes X L.oV L'.oV) (hx : Box X2 d.g 35 R'.c) (hk2 : Kept (fun k => k = d.g) X1 X2) : BeJ w d k L' R' X2 := by
  have hxb := h.pl.b.box h.pl.x (by decide) (by decide) hk
  have hB : ∀ {g : Nat} {T : TypeId} {cs : Array Value}, Box X g T cs → 51 ≠ T → 45 ≠ T → T ≠ 35 → Box X2 g T cs := fun hb h1 h2 h3 => by
    have := h.pl.b.box hb h1 h2 hk
    exact this.kept hk2 (Box.ne this hxb h3)
  have hN2 : ∀ {E : TypeId}, E ≠ 35 → NoKind X1 (fun k => k = d.g) E := fun hne => NoKind.box hxb hne
  have hN1 : ∀ {T : TypeId}, T ≠ 45 → T ≠ 51 → NoKind X (fun k => k = d.p ∨ L.oV.ownBlock = some k) T := fun h1 h2 k hk cs c hc => by
    rcases hk with rfl | hk
    · exact NoKind.box h.pl.b.l.l.box h2 _ rfl cs c hc
    · exact NoKind.own h.pl.b.l.l.o h1 k hk cs c hc
  have hR : ∀ {A : Option Addr} {n c : Nat} {xs : List Value}, X.ownsRow 0 45 11 (.slice A n c) n xs → Apart L.oV (.slice A n c) → X2.ownsRow 0 45 11 (.slice A n c) n xs := fun hr ha =>
    hk2.own_kind (hN2 (by decide)) (hk.own hr fun k hk' e => by
      rcases e with rfl | e
      · exact own_box_ne hr h.pl.b.l.l.box (by decide) hk'
      · exact ha k e hk')
  have hA : ∀ {A : Option Addr} {n c : Nat} {xs : List Value}, X.ownsRow 0 45 11 (.slice A n c) n xs → Apart L.oV (.slice A n c) → Apart L'.oV (.slice A n c) := fun hr ha k e1 e2 => by
    rcases hg k e1 with e | e
    · exact ha k e e2
    · have := (hr.lt k e2).2; omega
  exact ⟨PlAt.set hb hxb h.pl.ge hx hk2, hB h.v6 (by decide) (by decide) (by decide), hB h.v7 (by decide) (by decide) (by decide), hB h.v9 (by decide) (by decide) (by decide), hB h.v11 (by decide) (by decide) (by decide), hB h.v13 (by decide) (by decide) (by decide), hB h.v14 (by decide) (by decide) (by decide), hB h.v15 (by decide) (by decide) (by decide),
    hR h.zr h.ap3, hB h.xb (by decide) (by decide) (by decide), hR h.xr h.ap4, fun x hx => ((h.xo x hx).kept hk (hN1 (by decide) (by decide)) (hN1 (by decide) (by decide))).kept hk2 (hN2 (by decide)) (hN2 (by decide)), hA h.zr h.ap3, hA h.xr h.ap4⟩
/-- The element that comes next is the wanted one. -/
theorem BkOk.next (ho : BkOk w d) {j : Nat} (hj : j < d.xs.length) : ∃ (h : j < d.zs.length), d.zs[j].o = d.xs[j].o := by
  have hl : d.zs.length = d.xs.length := by simpa using congrArg List.length ho.map
  refine ⟨by omega, ?_⟩
  have := congrArg (fun l : List Opr => l[j]?) ho.map
  simp only [List.getElem?_map, List.getElem?_eq_getElem hj, List.getElem?_eq_getElem (show j < d.zs.length by omega), Option.map_some] at this
  injection this
theorem BkOk.len (ho : BkOk w d) : d.zs.length = d.xs.length := by simpa using congrArg List.length ho.map
end

/-- The operation at hand in its box. -/
theorem box_op (X : World) (y : Lop) : Box (X.alloc (.cells y.c 45)) X.heap.size 45 y.c := Box.new _ _ _

/-- And the inner counter. -/
structure BeI (w : World) (d : Bk) (k : Int) (L : Lg) (R : RLg) (bk : Nat) (j : Int) (X : World) : Prop where
  b : BeJ w d k L R X
  v : Box X bk 3 #[.int .i64 j]
theorem BeI.fresh {w X X' : World} {d : Bk} {k j : Int} {L : Lg} {R : RLg} {bk : Nat} (h : BeI w d k L R bk j X) (hk : Kept (fun _ => False) X X') : BeI w d k L R bk j X' := ⟨h.b.fresh hk, h.v.kept hk id⟩
theorem BeI.set11 {w X : World} {d : Bk} {k j : Int} {L : Lg} {R : RLg} {bk : Nat} (h : BeI w d k L R bk j X) (ho : BkOk w d) : BeI w d k L R bk j (X.setCell ⟨d.b11, 0, none⟩ (.bool true)) :=
  ⟨h.b.set11 ho, h.v.kept ((Kept.refl (fun k => k = d.b11) X).at 0 _ (.inl rfl)) (Box.ne h.v h.b.v11 (by decide))⟩
theorem BeI.setk {w X : World} {d : Bk} {k j : Int} {L : Lg} {R : RLg} {bk : Nat} (h : BeI w d k L R bk j X) (h7 : bk ≠ d.b7) (h15 : bk ≠ d.b15) (hw : w.heap.size ≤ bk) (j' : Int) : BeI w d k L R bk j' (X.setCell ⟨bk, 0, none⟩ (.int .i64 j')) :=
  ⟨h.b.other h.v h7 h15 ((Kept.refl (fun k => k = bk) X).at 0 _ (.inl rfl)) hw, h.v.set 0 _⟩
set_option maxRecDepth 100000 in
set_option maxHeartbeats 6400000 in
theorem Beyonds11_any (w : World) (d : Bk) (k : Int) (L : Lg) (R : RLg) (bk j : Nat) (X : World) (y : Lop) (ho : BkOk w d) (hj : j < d.xs.length) (h : BeI w d k L R bk j X) (hy : y.o = d.xs[j].o) (hya : y.At X) (h7 : bk ≠ d.b7) (h15 : bk ≠ d.b15) (hw : w.heap.size ≤ bk) :
    Calls Try.prog 29 #[.agg y.c, .pointer (some ⟨d.b11, 0, none⟩), .pointer (some ⟨bk, 0, none⟩), .pointer (some ⟨d.b13, 0, none⟩), .pointer (some ⟨d.b7, 0, none⟩)] X
      fun e W' => e = .returned (.bool (decide (((j : Int) + 1) ≠ d.stop))) ∧ BeI w d k L R bk ((j : Int) + 1) W' := by
  obtain ⟨hjz, hzo⟩ := ho.next hj
  have hzx := ho.xl
  have hzl := ho.len
  have hk0 : Kept (fun _ => False) X (X.alloc (.cells y.c 45)) := (Kept.refl _ _).alloc _
  have HZ := Lib.hid (h.fresh hk0)
  have hsm := ho.xsm _ (List.getElem_mem hj)
  have HSM := Lib.hid (fun (W : World) (hz : d.zs[j].At W) (hyw : y.At W) => same_true y d.zs[j] W hyw hz (by rw [hzo, hy]) (by rw [hy]; exact hsm.dl) (by rw [hy]; exact hsm.gl))
  have HBY := Lib.hid (Box.new X 45 y.c)
  have HYX := Lib.hid hya
  have HOK := Lib.hid ho
  obtain ⟨gz, hgz, -, -, -⟩ := own_cells h.b.zr (by omega)
  have HGZ := Lib.hid hgz
  obtain ⟨ds, hds⟩ : ∃ ds, y.c = ds := ⟨_, rfl⟩
  obtain ⟨cs, hcs⟩ : ∃ cs, d.zs[j].c = cs := ⟨_, rfl⟩
  have HSD := Lib.hid (show ds.size = 11 by rw [← hds]; rfl)
  have HZC := Lib.hid hcs
  rw [hds] at HZ HBY HSM ⊢
  rw [hcs] at HSM
  have hj0 : (0 : Int) ≤ (j : Int) := by omega
  have hj1 : (j : Int) < (d.zs.length : Int) := by omega
  have hj2 : ¬ ((d.zs.length : Int) ≤ (j : Int)) := by omega
  have hwr : IntKind.i64.wrap ((j : Int) + 1) = (j : Int) + 1 := IntWalk.i64_in _ ⟨by omega, by omega⟩
  clear h hk0 hy hya hgz hds hcs hzo ho hzl hsm
  go_enter Try.func29, Try.ntmps29
  go_upto_region 1 with (fail)
  have hk6 : Kept (fun _ => False) X (X.alloc (.cells ds 45)).drew := ((Kept.refl _ _).alloc _).drew
  have HZ6 := Lib.hid (HZ.out.fresh (Kept.refl (fun _ => False) _).drew)
  have HBY6 := Lib.hid (HBY.out.kept (Kept.refl (fun _ => False) _).drew id)
  have HSAME := Lib.hid (HSM.out (X.alloc (.cells ds 45)).drew ((HOK.out.zat _ (List.getElem_mem hjz)).fresh (HZ6.out.b.pl.b.l.k)) (HYX.out.fresh hk6))
  clear HZ HBY HSM HYX hk6
  refine wp_region_held_drew (S := fun Wz => Kept (fun b => b = d.b11) (X.alloc (.cells ds 45)).drew Wz) (by kernel_rfl) (Kept.refl _ _) fun hS => ?_
  obtain ⟨N, hN⟩ : ∃ N, X.heap.size = N := ⟨_, rfl⟩
  rw [hN] at HBY6 ⊢
  clear hN
  generalize (X.alloc (.cells ds 45)).drew = w6 at HZ6 HBY6 HSAME hS ⊢
  have HCT := Lib.hid (fun (Wz : World) (hk : Kept (fun b => b = d.b11) w6 Wz) => show Wz.cell? ⟨bk, 0, none⟩ = some (.int .i64 j) from by have := (HZ6.out.v.kept hk (Box.ne HZ6.out.v HZ6.out.b.v11 (by decide))).cell 0; simpa using this)
  have HWT := Lib.hid (fun (Wz : World) (hk : Kept (fun b => b = d.b11) w6 Wz) => show Wz.cell? ⟨d.b13, 0, none⟩ = some (.slice (some ⟨gz, 0, none⟩) d.zs.length d.c3) from by have := (HZ6.out.b.v13.kept hk (Box.ne HZ6.out.b.v13 HZ6.out.b.v11 (by decide))).cell 0; rw [HGZ.out] at this; simpa using this)
  have HOB := Lib.hid (fun (Wz : World) (hk : Kept (fun b => b = d.b11) w6 Wz) => HBY6.out.kept hk (Box.ne HBY6.out HZ6.out.b.v11 (by decide)))
  have HZR := Lib.hid (fun (Wz : World) (hk : Kept (fun b => b = d.b11) w6 Wz) => show Wz.ownsRow 0 45 11 (.slice (some ⟨gz, 0, none⟩) d.zs.length d.c3) d.zs.length (lops d.zs) from by have := hk.own_kind (NoKind.box HZ6.out.b.v11 (by decide)) HZ6.out.b.zr; rw [HGZ.out] at this; exact this)
  have c11 : w6.cell? ⟨d.b11, 0, none⟩ = some (.bool true) := by simpa using HZ6.out.b.v11.cell 0
  refine held_one (i := 0) (by kernel_rfl) rfl fun K hK => ?_
  go_wp2_with (fail)
  refine hK.out _ _ hS fun _ => ?_
  clear hK K
  clear c11
  refine held_takeTo 8 (i := 1) (v := .bool true) rfl rfl (by kernel_rfl) (by kernel_rfl) (by kernel_rfl) (fun _ _ _ h => h) rfl hS (fun Wz hW => by go_simp) ?_
  simp only [List.setIfInBounds_toArray, List.set_cons_zero, List.set_cons_succ]
  refine held_takeG 9 (i := 2) (v := .int .i64 j) rfl rfl (by kernel_rfl) (by kernel_rfl) (by kernel_rfl) (fun _ _ _ h => h) (by rfl) hS (fun Wz hW => by (have h15 := HCT.out Wz hW; go_simp)) ?_
  simp only [List.setIfInBounds_toArray, List.set_cons_zero, List.set_cons_succ]
  refine held_takeG 10 (i := 3) (v := .slice (some ⟨gz, 0, none⟩) d.zs.length d.c3) rfl rfl (by kernel_rfl) (by kernel_rfl) (by kernel_rfl) (fun _ _ _ h => h) (by rfl) hS (fun Wz hW => by (have h13 := HWT.out Wz hW; go_simp)) ?_
  simp only [List.setIfInBounds_toArray, List.set_cons_zero, List.set_cons_succ]
  refine held_takeG 11 (i := 4) (v := .int .i64 d.zs.length) rfl rfl (by kernel_rfl) (by kernel_rfl) (by kernel_rfl) (fun _ _ _ h => h) (by rfl) hS (fun Wz hW => by go_simp) ?_
  simp only [List.setIfInBounds_toArray, List.set_cons_zero, List.set_cons_succ]
  refine held_takeG 12 (i := 5) (v := .bool true) rfl rfl (by kernel_rfl) (by kernel_rfl) (by kernel_rfl) (fun _ _ _ h => h) (by rfl) hS (fun Wz hW => by go_simp) ?_
  simp only [List.setIfInBounds_toArray, List.set_cons_zero, List.set_cons_succ]
  refine held_takeTo 13 (i := 6) (v := .bool true) rfl rfl (by kernel_rfl) (by kernel_rfl) (by kernel_rfl) (fun _ _ _ h => h) rfl hS (fun Wz hW => by go_simp) ?_
  simp only [List.setIfInBounds_toArray, List.set_cons_zero, List.set_cons_succ]
  refine held_takeTo 14 (i := 7) (v := .bool true) rfl rfl (by kernel_rfl) (by kernel_rfl) (by kernel_rfl) (fun _ _ _ h => h) rfl hS (fun Wz hW => by go_simp) ?_
  simp only [List.setIfInBounds_toArray, List.set_cons_zero, List.set_cons_succ]
  refine held_takeG 15 (i := 8) (v := .agg ds) rfl rfl (by kernel_rfl) (by kernel_rfl) (by kernel_rfl) (fun _ _ _ h => h) (by rfl) hS (fun Wz hW => run_load_op _ _ rfl N rfl _ ds HSD.out (HOB.out Wz hW)) ?_
  simp only [List.setIfInBounds_toArray, List.set_cons_zero, List.set_cons_succ]
  refine held_takeG 16 (i := 9) (v := .slice (some ⟨gz, 0, none⟩) d.zs.length d.c3) rfl rfl (by kernel_rfl) (by kernel_rfl) (by kernel_rfl) (fun _ _ _ h => h) (by rfl) hS (fun Wz hW => by (have h13 := HWT.out Wz hW; go_simp)) ?_
  simp only [List.setIfInBounds_toArray, List.set_cons_zero, List.set_cons_succ]
  refine held_takeG 17 (i := 10) (v := .int .i64 j) rfl rfl (by kernel_rfl) (by kernel_rfl) (by kernel_rfl) (fun _ _ _ h => h) (by rfl) hS (fun Wz hW => by (have h15 := HCT.out Wz hW; go_simp)) ?_
  simp only [List.setIfInBounds_toArray, List.set_cons_zero, List.set_cons_succ]
  refine held_takeG 18 (i := 11) (v := .pointer (some ⟨gz, j * 11, none⟩)) rfl rfl (by kernel_rfl) (by kernel_rfl) (by kernel_rfl) (fun _ _ _ h => h) (by rfl) hS (fun Wz hW => by go_simp) ?_
  simp only [List.setIfInBounds_toArray, List.set_cons_zero, List.set_cons_succ]
  refine held_takeG 19 (i := 12) (v := .agg cs) rfl rfl (by kernel_rfl) (by kernel_rfl) (by kernel_rfl) (fun _ _ _ h => h) (by rfl) hS (fun Wz hW => run_load_row _ _ rfl gz j rfl d.zs (HZR.out Wz hW) hjz cs HZC.out) ?_
  simp only [List.setIfInBounds_toArray, List.set_cons_zero, List.set_cons_succ]
  refine held_one (i := 13) (by kernel_rfl) rfl fun K hK => ?_
  go_wp2_with (fail)
  refine HSAME.out.mono ?_
  unfold BoolPost
  rintro e w7 ⟨rfl, hk7⟩
  have hS7 : Kept (fun b => b = d.b11) w6 w7 := hk7.more fun _ _ e => e.elim
  have HZ7 := Lib.hid (HZ6.out.fresh hk7)
  clear hk7
  go_wp2_with (fail)
  refine hK.out _ _ hS7 fun _ => ?_
  clear hK K
  refine held_takeTo 21 (i := 14) (v := .bool true) rfl rfl (by kernel_rfl) (by kernel_rfl) (by kernel_rfl) (fun _ _ _ h => h) rfl hS7 (fun Wz hW => by go_simp) ?_
  simp only [List.setIfInBounds_toArray, List.set_cons_zero, List.set_cons_succ]
  have c11 : w7.cell? ⟨d.b11, 0, none⟩ = some (.bool true) := by simpa using HZ7.out.b.v11.cell 0
  have f11 := HZ7.out.b.v11.frozen 0
  refine held_one (i := 15) (by kernel_rfl) rfl fun K hK => ?_
  go_wp2_with (fail)
  refine hK.out _ _ (hS7.at 0 _ (.inl rfl)) fun _ => ?_
  clear hK K
  refine wpAnyH_done (by kernel_rfl) ?_ _
  have HZ8 := Lib.hid (HZ7.out.set11 HOK.out)
  clear hS hS7 c11 f11 HZ6 HZ7 HCT HWT HOB HZR HSAME
  generalize w7.setCell ⟨d.b11, 0, none⟩ (.bool true) = w8 at HZ8 ⊢
  have ck : w8.cell? ⟨bk, 0, none⟩ = some (.int .i64 j) := by simpa using HZ8.out.v.cell 0
  have fk := HZ8.out.v.frozen 0
  go_upto_region 3 with (fail)
  have HZ9 := Lib.hid (HZ8.out.setk h7 h15 hw ((j : Int) + 1))
  clear ck fk HZ8
  generalize w8.setCell ⟨bk, 0, none⟩ (.int .i64 ((j : Int) + 1)) = w9 at HZ9 ⊢
  have c11 : w9.cell? ⟨d.b11, 0, none⟩ = some (.bool true) := by simpa using HZ9.out.b.v11.cell 0
  have ck : w9.cell? ⟨bk, 0, none⟩ = some (.int .i64 ((j : Int) + 1)) := by simpa using HZ9.out.v.cell 0
  have c7 : w9.cell? ⟨d.b7, 0, none⟩ = some (.int .i64 d.stop) := by simpa using HZ9.out.b.v7.cell 0
  go_wp2_with (fail)
  go_ret
  exact ⟨ret_bool (by by_cases e : (j : Int) + 1 = d.stop <;> simp [e]), HZ9.out⟩
end Go.Proofs.Ytnfehkncfjgeeaa

namespace Go.Proofs.Ytnfehkncfjgeeaa
open Go Go.RowKit

/-- One round of the iterator. -/
def RoundPost (w : World) (d : Bk) (k : Nat) (e : Ending) (W' : World) : Prop := e = .returned (.bool true) ∧ ∃ (L' : Lg) (R' : RLg), L'.ops.length ≤ 40 + (k + 1) ∧ BeJ w d ((k : Int) + 1) L' R' W'
set_option maxRecDepth 100000 in
set_option maxHeartbeats 12800000 in
theorem Beyonds1_any (w : World) (d : Bk) (L : Lg) (R : RLg) (j : Nat) (X : World) (y : Lop) (ho : BkOk w d) (hj : j < d.xs.length) (h : BeJ w d j L R X) (hy : y.o = d.xs[j].o) (hya : y.At X) (hl : L.ops.length ≤ 40 + j) :
    Calls Try.prog 27 #[.agg y.c, .pointer (some ⟨d.b11, 0, none⟩), .pointer (some ⟨d.b15, 0, none⟩), .pointer (some ⟨d.b13, 0, none⟩), .pointer (some ⟨d.b6, 0, none⟩), .pointer (some ⟨d.b9, 0, none⟩), .pointer (some ⟨d.g, 0, none⟩), .pointer (some ⟨d.b14, 0, none⟩), .pointer (some ⟨d.b7, 0, none⟩)] X (RoundPost w d j) := by
  obtain ⟨hjz, hzo⟩ := ho.next hj
  have hzx := ho.xl
  have hml := ho.ml
  have hzl := ho.len
  have hk0 : Kept (fun _ => False) X (X.alloc (.cells y.c 45)) := (Kept.refl _ _).alloc _
  have HZ := Lib.hid (h.fresh hk0)
  have hsm := ho.xsm _ (List.getElem_mem hj)
  have HSM := Lib.hid (fun (W : World) (hz : d.zs[j].At W) (hyw : y.At W) => same_true y d.zs[j] W hyw hz (by rw [hzo, hy]) (by rw [hy]; exact hsm.dl) (by rw [hy]; exact hsm.gl))
  have HBY := Lib.hid (Box.new X 45 y.c)
  have HYX := Lib.hid hya
  have HOK := Lib.hid ho
  have HL := Lib.hid hl
  have HJX := Lib.hid hj
  have HZL := Lib.hid hzl
  obtain ⟨gz, hgz, -, -, -⟩ := own_cells h.zr (by omega)
  have HGZ := Lib.hid hgz
  obtain ⟨ds, hds⟩ : ∃ ds, y.c = ds := ⟨_, rfl⟩
  obtain ⟨cs, hcs⟩ : ∃ cs, d.zs[j].c = cs := ⟨_, rfl⟩
  have HSD := Lib.hid (show ds.size = 11 by rw [← hds]; rfl)
  have HZC := Lib.hid hcs
  rw [hds] at HZ HBY HSM ⊢
  rw [hcs] at HSM
  have hj0 : (0 : Int) ≤ (j : Int) := by omega
  have hj1 : (j : Int) < (d.zs.length : Int) := by omega
  have hj2 : ¬ ((d.zs.length : Int) ≤ (j : Int)) := by omega
  have hwr : IntKind.i64.wrap ((j : Int) + 1) = (j : Int) + 1 := IntWalk.i64_in _ ⟨by omega, by omega⟩
  clear h hk0 hy hya hgz hds hcs hzo ho hzl hsm hl
  go_enter Try.func27, Try.ntmps27
  go_upto_region 1 with (fail)
  have hk6 : Kept (fun _ => False) X (X.alloc (.cells ds 45)).drew := ((Kept.refl _ _).alloc _).drew
  have HZ6 := Lib.hid (HZ.out.fresh (Kept.refl (fun _ => False) _).drew)
  have HBY6 := Lib.hid (HBY.out.kept (Kept.refl (fun _ => False) _).drew id)
  have HSAME := Lib.hid (HSM.out (X.alloc (.cells ds 45)).drew ((HOK.out.zat _ (List.getElem_mem hjz)).fresh (HZ6.out.pl.b.l.k)) (HYX.out.fresh hk6))
  clear HZ HBY HSM HYX hk6
  refine wp_region_held_drew (S := fun Wz => Kept (fun b => b = d.b11) (X.alloc (.cells ds 45)).drew Wz) (by kernel_rfl) (Kept.refl _ _) fun hS => ?_
  obtain ⟨N, hN⟩ : ∃ N, X.heap.size = N := ⟨_, rfl⟩
  rw [hN] at HBY6 ⊢
  clear hN
  generalize (X.alloc (.cells ds 45)).drew = w6 at HZ6 HBY6 HSAME hS ⊢
  have HCT := Lib.hid (fun (Wz : World) (hk : Kept (fun b => b = d.b11) w6 Wz) => show Wz.cell? ⟨d.b15, 0, none⟩ = some (.int .i64 j) from by have := (HZ6.out.v15.kept hk (Box.ne HZ6.out.v15 HZ6.out.v11 (by decide))).cell 0; simpa using this)
  have HWT := Lib.hid (fun (Wz : World) (hk : Kept (fun b => b = d.b11) w6 Wz) => show Wz.cell? ⟨d.b13, 0, none⟩ = some (.slice (some ⟨gz, 0, none⟩) d.zs.length d.c3) from by have := (HZ6.out.v13.kept hk (Box.ne HZ6.out.v13 HZ6.out.v11 (by decide))).cell 0; rw [HGZ.out] at this; simpa using this)
  have HOB := Lib.hid (fun (Wz : World) (hk : Kept (fun b => b = d.b11) w6 Wz) => HBY6.out.kept hk (Box.ne HBY6.out HZ6.out.v11 (by decide)))
  have HZR := Lib.hid (fun (Wz : World) (hk : Kept (fun b => b = d.b11) w6 Wz) => show Wz.ownsRow 0 45 11 (.slice (some ⟨gz, 0, none⟩) d.zs.length d.c3) d.zs.length (lops d.zs) from by have := hk.own_kind (NoKind.box HZ6.out.v11 (by decide)) HZ6.out.zr; rw [HGZ.out] at this; exact this)
  have c11 : w6.cell? ⟨d.b11, 0, none⟩ = some (.bool true) := by simpa using HZ6.out.v11.cell 0
  refine held_one (i := 0) (by kernel_rfl) rfl fun K hK => ?_
  go_wp2_with (fail)
  refine hK.out _ _ hS fun _ => ?_
  clear hK K
  clear c11
  refine held_takeTo 13 (i := 1) (v := .bool true) rfl rfl (by kernel_rfl) (by kernel_rfl) (by kernel_rfl) (fun _ _ _ h => h) rfl hS (fun Wz hW => by go_simp) ?_
  simp only [List.setIfInBounds_toArray, List.set_cons_zero, List.set_cons_succ]
  refine held_takeG 14 (i := 2) (v := .int .i64 j) rfl rfl (by kernel_rfl) (by kernel_rfl) (by kernel_rfl) (fun _ _ _ h => h) (by rfl) hS (fun Wz hW => by (have h15 := HCT.out Wz hW; go_simp)) ?_
  simp only [List.setIfInBounds_toArray, List.set_cons_zero, List.set_cons_succ]
  refine held_takeG 15 (i := 3) (v := .slice (some ⟨gz, 0, none⟩) d.zs.length d.c3) rfl rfl (by kernel_rfl) (by kernel_rfl) (by kernel_rfl) (fun _ _ _ h => h) (by rfl) hS (fun Wz hW => by (have h13 := HWT.out Wz hW; go_simp)) ?_
  simp only [List.setIfInBounds_toArray, List.set_cons_zero, List.set_cons_succ]
  refine held_takeG 16 (i := 4) (v := .int .i64 d.zs.length) rfl rfl (by kernel_rfl) (by kernel_rfl) (by kernel_rfl) (fun _ _ _ h => h) (by rfl) hS (fun Wz hW => by go_simp) ?_
  simp only [List.setIfInBounds_toArray, List.set_cons_zero, List.set_cons_succ]
  refine held_takeG 17 (i := 5) (v := .bool true) rfl rfl (by kernel_rfl) (by kernel_rfl) (by kernel_rfl) (fun _ _ _ h => h) (by rfl) hS (fun Wz hW => by go_simp) ?_
  simp only [List.setIfInBounds_toArray, List.set_cons_zero, List.set_cons_succ]
  refine held_takeTo 18 (i := 6) (v := .bool true) rfl rfl (by kernel_rfl) (by kernel_rfl) (by kernel_rfl) (fun _ _ _ h => h) rfl hS (fun Wz hW => by go_simp) ?_
  simp only [List.setIfInBounds_toArray, List.set_cons_zero, List.set_cons_succ]
  refine held_takeTo 19 (i := 7) (v := .bool true) rfl rfl (by kernel_rfl) (by kernel_rfl) (by kernel_rfl) (fun _ _ _ h => h) rfl hS (fun Wz hW => by go_simp) ?_
  simp only [List.setIfInBounds_toArray, List.set_cons_zero, List.set_cons_succ]
  refine held_takeG 20 (i := 8) (v := .agg ds) rfl rfl (by kernel_rfl) (by kernel_rfl) (by kernel_rfl) (fun _ _ _ h => h) (by rfl) hS (fun Wz hW => run_load_op _ _ rfl N rfl _ ds HSD.out (HOB.out Wz hW)) ?_
  simp only [List.setIfInBounds_toArray, List.set_cons_zero, List.set_cons_succ]
  refine held_takeG 21 (i := 9) (v := .slice (some ⟨gz, 0, none⟩) d.zs.length d.c3) rfl rfl (by kernel_rfl) (by kernel_rfl) (by kernel_rfl) (fun _ _ _ h => h) (by rfl) hS (fun Wz hW => by (have h13 := HWT.out Wz hW; go_simp)) ?_
  simp only [List.setIfInBounds_toArray, List.set_cons_zero, List.set_cons_succ]
  refine held_takeG 22 (i := 10) (v := .int .i64 j) rfl rfl (by kernel_rfl) (by kernel_rfl) (by kernel_rfl) (fun _ _ _ h => h) (by rfl) hS (fun Wz hW => by (have h15 := HCT.out Wz hW; go_simp)) ?_
  simp only [List.setIfInBounds_toArray, List.set_cons_zero, List.set_cons_succ]
  refine held_takeG 23 (i := 11) (v := .pointer (some ⟨gz, j * 11, none⟩)) rfl rfl (by kernel_rfl) (by kernel_rfl) (by kernel_rfl) (fun _ _ _ h => h) (by rfl) hS (fun Wz hW => by go_simp) ?_
  simp only [List.setIfInBounds_toArray, List.set_cons_zero, List.set_cons_succ]
  refine held_takeG 24 (i := 12) (v := .agg cs) rfl rfl (by kernel_rfl) (by kernel_rfl) (by kernel_rfl) (fun _ _ _ h => h) (by rfl) hS (fun Wz hW => run_load_row _ _ rfl gz j rfl d.zs (HZR.out Wz hW) hjz cs HZC.out) ?_
  simp only [List.setIfInBounds_toArray, List.set_cons_zero, List.set_cons_succ]
  refine held_one (i := 13) (by kernel_rfl) rfl fun K hK => ?_
  go_wp2_with (fail)
  refine HSAME.out.mono ?_
  unfold BoolPost
  rintro e w7 ⟨rfl, hk7⟩
  have hS7 : Kept (fun b => b = d.b11) w6 w7 := hk7.more fun _ _ e => e.elim
  have HZ7 := Lib.hid (HZ6.out.fresh hk7)
  clear hk7
  go_wp2_with (fail)
  refine hK.out _ _ hS7 fun _ => ?_
  clear hK K
  refine held_takeTo 26 (i := 14) (v := .bool true) rfl rfl (by kernel_rfl) (by kernel_rfl) (by kernel_rfl) (fun _ _ _ h => h) rfl hS7 (fun Wz hW => by go_simp) ?_
  simp only [List.setIfInBounds_toArray, List.set_cons_zero, List.set_cons_succ]
  have c11 : w7.cell? ⟨d.b11, 0, none⟩ = some (.bool true) := by simpa using HZ7.out.v11.cell 0
  have f11 := HZ7.out.v11.frozen 0
  refine held_one (i := 15) (by kernel_rfl) rfl fun K hK => ?_
  go_wp2_with (fail)
  refine hK.out _ _ (hS7.at 0 _ (.inl rfl)) fun _ => ?_
  clear hK K
  refine wpAnyH_done (by kernel_rfl) ?_ _
  have HZ8 := Lib.hid (HZ7.out.set11 HOK.out)
  clear hS hS7 c11 f11 HZ6 HZ7 HCT HWT HOB HZR HSAME
  generalize w7.setCell ⟨d.b11, 0, none⟩ (.bool true) = w8 at HZ8 ⊢
  clear HBY6 HSD HZC hjz hj1 hj2
  have c11 : w8.cell? ⟨d.b11, 0, none⟩ = some (.bool true) := by simpa using HZ8.out.v11.cell 0
  have c15 : w8.cell? ⟨d.b15, 0, none⟩ = some (.int .i64 j) := by simpa using HZ8.out.v15.cell 0
  have c6 : w8.cell? ⟨d.b6, 0, none⟩ = some (.slice d.A2 d.m.length d.c2) := by simpa using HZ8.out.v6.cell 0
  go_upto_if 33 with (fail)
  go_cut [33] (fun _ wx => ∃ (L' : Lg) (R' : RLg), L'.ops.length ≤ 40 + (j + 1) ∧ BeJ w d j L' R' wx)
  case first =>
    by_cases hm : j < d.m.length
    · have hm0 : (j : Int) < (d.m.length : Int) := by omega
      have hm1 : ¬ ((d.m.length : Int) ≤ (j : Int)) := by omega
      obtain ⟨ad, hA2, -, -, -⟩ := HOK.out.scr j hm
      have HA2 := Lib.hid hA2
      have HSTP := Lib.hid (HOK.out.stp d.m[j] (List.getElem_mem hm))
      have hlj : L.ops.length ≤ 40 + j := HL.out
      clear hA2 c11 c15 c6
      go_upto_region 3 with (fail)
      have HZ9 := Lib.hid (HZ8.out.fresh (Kept.refl (fun _ => False) w8).drew)
      clear HZ8
      as_aux_lemma =>
        refine wp_region_held_drew (S := fun Wz => (Kept (fun _ => False) w Wz ∧ Box Wz d.b9 29 #[.pointer (some ⟨d.p, 0, none⟩)]) ∧ Box Wz d.b6 24 #[.slice d.A2 d.m.length d.c2] ∧ Box Wz d.b15 3 #[.int .i64 j]) (by kernel_rfl) ⟨⟨HZ9.out.pl.b.l.k, HZ9.out.v9⟩, HZ9.out.v6, HZ9.out.v15⟩ fun hS => ?_
        generalize w8.drew = w9 at HZ9 hS ⊢
        refine held_takeTo 35 (i := 0) (v := .pointer (some ⟨d.p, 0, none⟩)) rfl rfl (by kernel_rfl) (by kernel_rfl) (by kernel_rfl) (fun _ _ _ h => h) rfl hS (fun Wz hW => by (have h9 : Wz.cell? ⟨d.b9, 0, none⟩ = some (.pointer (some ⟨d.p, 0, none⟩)) := (by simpa using hW.1.2.cell 0); go_simp)) ?_
        simp only [List.setIfInBounds_toArray, List.set_cons_zero, List.set_cons_succ]
        refine held_takeTo 37 (i := 2) (v := .slice (some ad) d.m.length d.c2) rfl rfl (by kernel_rfl) (by kernel_rfl) (by kernel_rfl) (fun _ _ _ h => h) rfl hS (fun Wz hW => by (have h6 : Wz.cell? ⟨d.b6, 0, none⟩ = some (.slice (some ad) d.m.length d.c2) := (by have := hW.2.1.cell 0; rw [HA2.out] at this; simpa using this); go_simp)) ?_
        simp only [List.setIfInBounds_toArray, List.set_cons_zero, List.set_cons_succ]
        refine held_takeTo 38 (i := 3) (v := .int .i64 j) rfl rfl (by kernel_rfl) (by kernel_rfl) (by kernel_rfl) (fun _ _ _ h => h) rfl hS (fun Wz hW => by (have h15 : Wz.cell? ⟨d.b15, 0, none⟩ = some (.int .i64 j) := (by simpa using hW.2.2.cell 0); go_simp)) ?_
        simp only [List.setIfInBounds_toArray, List.set_cons_zero, List.set_cons_succ]
        refine held_takeTo 39 (i := 4) (v := .pointer (some (ad.add (j * 13)))) rfl rfl (by kernel_rfl) (by kernel_rfl) (by kernel_rfl) (fun _ _ _ h => h) rfl hS (fun Wz hW => by go_simp) ?_
        simp only [List.setIfInBounds_toArray, List.set_cons_zero, List.set_cons_succ]
        refine held_takeTo 40 (i := 5) (v := .agg d.m[j].c) rfl rfl (by kernel_rfl) (by kernel_rfl) (by kernel_rfl) (fun _ _ _ h => h) rfl hS (fun Wz hW => HOK.out.scr.load hW.1.1 hm _ _ rfl ad HA2.out rfl) ?_
        simp only [List.setIfInBounds_toArray, List.set_cons_zero, List.set_cons_succ]
        obtain ⟨c0, c1⟩ := HZ9.out.pl.cells
        refine held_one (i := 1) (by kernel_rfl) rfl fun K hK => ?_
        go_wp2_with (fail)
        refine hK.out _ _ hS fun _ => ?_
        clear hK K
        clear c0 c1
        refine held_one (i := 6) (by kernel_rfl) rfl fun K hK => ?_
        go_wp2_with (fail)
        refine (step_any w _ d.p L R d.m[j] HZ9.out.pl.b HSTP.out (by omega)).mono ?_
        rintro e w11 ⟨L', R', rfl, hd', hbo, hk11, hg11, hr11⟩
        have hS11 : (Kept (fun _ => False) w w11 ∧ Box w11 d.b9 29 #[.pointer (some ⟨d.p, 0, none⟩)]) ∧ Box w11 d.b6 24 #[.slice d.A2 d.m.length d.c2] ∧ Box w11 d.b15 3 #[.int .i64 j] := ⟨⟨hbo.l.k, HZ9.out.pl.b.box HZ9.out.v9 (by decide) (by decide) hk11⟩, HZ9.out.pl.b.box HZ9.out.v6 (by decide) (by decide) hk11, HZ9.out.pl.b.box HZ9.out.v15 (by decide) (by decide) hk11⟩
        have HLK := Lib.hid (step_len' L L' _ _ _ hd' hlj)
        have HNX := Lib.hid (fun (X2 : World) hx hk2 => HZ9.out.step hbo hk11 hg11 (X2 := X2) hx hk2)
        have HBX := Lib.hid (HZ9.out.pl.b.box HZ9.out.pl.x (by decide) (by decide) hk11)
        clear hd' hbo hk11 hg11 hr11 HZ9
        go_wp2_with (fail)
        refine hK.out _ _ hS11 fun _ => ?_
        clear hK K
        refine held_takeTo 34 (i := 7) (v := .tuple #[.agg R'.c, .bool true]) rfl rfl (by kernel_rfl) (by kernel_rfl) (by kernel_rfl) (fun _ _ _ h => h) rfl hS11 (fun Wz hW => by go_simp) ?_
        simp only [List.setIfInBounds_toArray, List.set_cons_zero, List.set_cons_succ]
        refine held_takeTo 42 (i := 8) (v := .agg R'.c) rfl rfl (by kernel_rfl) (by kernel_rfl) (by kernel_rfl) (fun _ _ _ h => h) rfl hS11 (fun Wz hW => by go_simp) ?_
        simp only [List.setIfInBounds_toArray, List.set_cons_zero, List.set_cons_succ]
        refine held_takeTo 43 (i := 9) (v := .bool true) rfl rfl (by kernel_rfl) (by kernel_rfl) (by kernel_rfl) (fun _ _ _ h => h) rfl hS11 (fun Wz hW => by go_simp) ?_
        simp only [List.setIfInBounds_toArray, List.set_cons_zero, List.set_cons_succ]
        refine held_one (i := 10) (by kernel_rfl) rfl fun K hK => ?_
        refine wpList_store_box rfl 35 _ _ rfl d.g (RLg.c R') rfl rfl 35 _ HBX.out (size_RL.trans rfl) rfl (RLg.c_one _) ?_
        intro w13 HB13 hk13
        have HZ13 := Lib.hid (HNX.out w13 HB13.out hk13)
        have hS13 : (Kept (fun _ => False) w w13 ∧ Box w13 d.b9 29 #[.pointer (some ⟨d.p, 0, none⟩)]) ∧ Box w13 d.b6 24 #[.slice d.A2 d.m.length d.c2] ∧ Box w13 d.b15 3 #[.int .i64 j] := ⟨⟨HZ13.out.pl.b.l.k, HZ13.out.v9⟩, HZ13.out.v6, HZ13.out.v15⟩
        clear hk13 HB13 HNX HBX
        refine hK.out _ _ hS13 fun _ => ?_
        clear hK K
        have c11 : w13.cell? ⟨d.b11, 0, none⟩ = some (.bool true) := by simpa using HZ13.out.v11.cell 0
        have f11 := HZ13.out.v11.frozen 0
        have HZ14 := Lib.hid (HZ13.out.set11 HOK.out)
        refine held_one (i := 11) (by kernel_rfl) rfl fun K hK => ?_
        go_wp2_with (fail)
        refine hK.out _ _ ⟨⟨HZ14.out.pl.b.l.k, HZ14.out.v9⟩, HZ14.out.v6, HZ14.out.v15⟩ fun _ => ?_
        clear hK K
        refine wpAnyH_done (by kernel_rfl) ?_ _
        go_wp2_with (fail)
        go_meet
        case rel => exact ⟨L', R', HLK.out, HZ14.out⟩
    · have hm0 : ¬ ((j : Int) < (d.m.length : Int)) := by omega
      go_wp2_with (fail)
      go_meet
      case rel => exact ⟨L, R, by have := HL.out; omega, HZ8.out⟩
  case rest =>
    obtain ⟨L', R', hlk, hz⟩ := hcut
    have HZ9 := Lib.hid hz
    have HLK := Lib.hid hlk
    have c15 : wc.cell? ⟨d.b15, 0, none⟩ = some (.int .i64 j) := by simpa using hz.v15.cell 0
    have f15 := hz.v15.frozen 0
    clear hz hlk HZ8
    go_upto_region 5 with (fail)
    have HZ10 := Lib.hid (HZ9.out.set15 HOK.out ((j : Int) + 1))
    clear HZ9 c15 f15
    generalize wc.setCell ⟨d.b15, 0, none⟩ (.int .i64 ((j : Int) + 1)) = w10 at HZ10 ⊢
    have c15 : w10.cell? ⟨d.b15, 0, none⟩ = some (.int .i64 ((j : Int) + 1)) := by simpa using HZ10.out.v15.cell 0
    have c11 : w10.cell? ⟨d.b11, 0, none⟩ = some (.bool true) := by simpa using HZ10.out.v11.cell 0
    by_cases h1 : j = 0
    · subst h1
      have HZ11 := Lib.hid (show BeI w d (((0 : Nat) : Int) + 1) L' R' w10.heap.size 0 (w10.alloc (.cells #[.int .i64 0] 3)) from ⟨HZ10.out.fresh ((Kept.refl _ _).alloc _), Box.new _ _ _⟩)
      have HNE := Lib.hid (show w10.heap.size ≠ d.b7 ∧ w10.heap.size ≠ d.b15 ∧ w.heap.size ≤ w10.heap.size from ⟨Nat.ne_of_gt HZ10.out.v7.lt, Nat.ne_of_gt HZ10.out.v15.lt, HZ10.out.pl.b.l.k.size⟩)
      clear hj
      go_upto_region 7 with (fail)
      generalize w10.alloc (.cells #[.int .i64 0] 3) = w11 at HZ11 ⊢
      generalize w10.heap.size = bk at HZ11 HNE ⊢
      clear c15 c11 HZ10
      have c14 : w11.cell? ⟨d.b14, 0, none⟩ = some (.func (.func 51) #[] #[.pointer (some ⟨d.B, 0, none⟩)]) := by simpa [itV] using HZ11.out.b.v14.cell 0
      go_wp2_with (fail)
      refine (Beyond1_any 29 #[.pointer (some ⟨d.b11, 0, none⟩), .pointer (some ⟨bk, 0, none⟩), .pointer (some ⟨d.b13, 0, none⟩), .pointer (some ⟨d.b7, 0, none⟩)] (enters_of Try.func29 (by kernel_rfl) rfl) d.B d.xs d.A4 d.c4
        (fun k W => BeI w d (((0 : Nat) : Int) + 1) L' R' bk k W) (fun k W => (k : Int) = d.stop ∧ BeI w d (((0 : Nat) : Int) + 1) L' R' bk k W)
        (fun k W h => h.b.it HOK.out) (fun k W W' h hk => h.fresh hk) ?_ w11 HZ11.out).mono ?_
      · intro k hk y W0 W _ hk0 hJ hyo hyw
        refine (Beyonds11_any w d _ L' R' bk k W y HOK.out hk hJ hyo hyw.at HNE.out.1 HNE.out.2.1 HNE.out.2.2).mono ?_
        rintro e W' ⟨rfl, hz⟩
        have e1 : ((k + 1 : Nat) : Int) = (k : Int) + 1 := by omega
        by_cases hst : (k : Int) + 1 = d.stop
        · exact .inr ⟨by simp [hst], by rw [e1]; exact hst, by rw [e1]; exact hz⟩
        · exact .inl ⟨by simp [hst], by rw [e1]; exact hz⟩
      rintro e W ⟨⟨v, rfl⟩, hend⟩
      have hend' : ∃ k : Nat, (k = d.zs.length ∨ (k : Int) = d.stop) ∧ BeI w d (((0 : Nat) : Int) + 1) L' R' bk k W := by
        rcases hend with h | ⟨k, _, _, h1, h⟩
        · exact ⟨_, .inl HZL.out.symm, h⟩
        · exact ⟨k, .inr h1, h⟩
      obtain ⟨k, hk, hz⟩ := hend'
      have HZ12 := Lib.hid hz
      have c11 : W.cell? ⟨d.b11, 0, none⟩ = some (.bool true) := by simpa using hz.b.v11.cell 0
      have f11 := hz.b.v11.frozen 0
      have ck : W.cell? ⟨bk, 0, none⟩ = some (.int .i64 k) := by simpa using hz.v.cell 0
      have c13 : W.cell? ⟨d.b13, 0, none⟩ = some (.slice d.A3 d.zs.length d.c3) := by simpa using hz.b.v13.cell 0
      have c7 : W.cell? ⟨d.b7, 0, none⟩ = some (.int .i64 d.stop) := by simpa using hz.b.v7.cell 0
      clear hend hz HZ11 c14
      have hcase : ((k : Int) == (d.zs.length : Int)) = true ∨ (((k : Int) == (d.zs.length : Int)) = false ∧ ((k : Int) == d.stop) = true) := by
        by_cases e : (k : Int) = (d.zs.length : Int)
        · exact .inl (beq_iff_eq.2 e)
        · refine .inr ⟨beq_eq_false_iff_ne.2 e, beq_iff_eq.2 ?_⟩
          rcases hk with h | h
          · exact absurd (by rw [h]) e
          · exact h
      clear hk
      rcases hcase with hb1 | ⟨hb1, hb2⟩
      · go_upto_region 9 with (fail)
        have HZ13 := Lib.hid (HZ12.out.b.set11 HOK.out)
        clear c11 f11 ck c13 c7 HZ12
        generalize W.setCell ⟨d.b11, 0, none⟩ (.bool true) = w13 at HZ13 ⊢
        have c11 : w13.cell? ⟨d.b11, 0, none⟩ = some (.bool true) := by simpa using HZ13.out.v11.cell 0
        go_wp2_with (fail)
        go_ret
        exact ⟨rfl, L', R', HLK.out, HZ13.out⟩
      · go_upto_region 9 with (fail)
        have HZ13 := Lib.hid (HZ12.out.b.set11 HOK.out)
        clear c11 f11 ck c13 c7 HZ12
        generalize W.setCell ⟨d.b11, 0, none⟩ (.bool true) = w13 at HZ13 ⊢
        have c11 : w13.cell? ⟨d.b11, 0, none⟩ = some (.bool true) := by simpa using HZ13.out.v11.cell 0
        go_wp2_with (fail)
        go_ret
        exact ⟨rfl, L', R', HLK.out, HZ13.out⟩
    · have h2 : ¬ ((j : Int) + 1 = 1) := by omega
      go_wp2_with (fail)
      go_ret
      exact ⟨rfl, L', R', HLK.out, HZ10.out⟩

theorem LogAt.zero' (w : World) : LogAt (w.alloc (.cells #[.slice none 0 0, .slice none 0 0, .slice none 0 0] 51)) w.heap.size Lg.zero := LogAt.zero w _ rfl
/-- The variables ahead of the iterator. -/
structure Be (w : World) (p b6 b7 b9 g b11 : Nat) (A2 : Option Addr) (m : List Stp) (c2 : Nat) (stop : Int) (L : Lg) (R : RLg) (X : World) : Prop where
  pl : PlAt w p g L R X
  v6 : Box X b6 24 #[.slice A2 m.length c2]
  v7 : Box X b7 3 #[.int .i64 stop]
  v9 : Box X b9 29 #[.pointer (some ⟨p, 0, none⟩)]
  v11 : Box X b11 4 #[.bool true]
section
variable {w X X' X1 X2 : World} {p b6 b7 b9 g b11 : Nat} {A2 : Option Addr} {m : List Stp} {c2 : Nat} {stop : Int} {L L' : Lg} {R R' : RLg}
theorem Be.fresh (h : Be w p b6 b7 b9 g b11 A2 m c2 stop L R X) (hk : Kept (fun _ => False) X X') : Be w p b6 b7 b9 g b11 A2 m c2 stop L R X' := ⟨h.pl.fresh hk, h.v6.kept hk id, h.v7.kept hk id, h.v9.kept hk id, h.v11.kept hk id⟩
theorem Be.set11 (h : Be w p b6 b7 b9 g b11 A2 m c2 stop L R X) (hw : w.heap.size ≤ b11) : Be w p b6 b7 b9 g b11 A2 m c2 stop L R (X.setCell ⟨b11, 0, none⟩ (.bool true)) := by
  have hk : Kept (fun k => k = b11) X (X.setCell ⟨b11, 0, none⟩ (.bool true)) := (Kept.refl _ _).at 0 _ (.inl rfl)
  exact ⟨h.pl.other h.v11 (by decide) (by decide) (by decide) (by decide) (by decide) hk hw, h.v6.kept hk (Box.ne h.v6 h.v11 (by decide)), h.v7.kept hk (Box.ne h.v7 h.v11 (by decide)), h.v9.kept hk (Box.ne h.v9 h.v11 (by decide)), h.v11.set 0 _⟩
theorem Be.step (h : Be w p b6 b7 b9 g b11 A2 m c2 stop L R X) (hb : Both w p L' R' X1) (hk : Kept (fun k => k = p ∨ L.oV.ownBlock = some k) X X1) (hx : Box X2 g 35 R'.c) (hk2 : Kept (fun k => k = g) X1 X2) : Be w p b6 b7 b9 g b11 A2 m c2 stop L' R' X2 := by
  have hxb := h.pl.b.box h.pl.x (by decide) (by decide) hk
  have hB : ∀ {g' : Nat} {T : TypeId} {cs : Array Value}, Box X g' T cs → 51 ≠ T → 45 ≠ T → T ≠ 35 → Box X2 g' T cs := fun hb h1 h2 h3 => by
    have := h.pl.b.box hb h1 h2 hk
    exact this.kept hk2 (Box.ne this hxb h3)
  exact ⟨PlAt.set hb hxb h.pl.ge hx hk2, hB h.v6 (by decide) (by decide) (by decide), hB h.v7 (by decide) (by decide) (by decide), hB h.v9 (by decide) (by decide) (by decide), hB h.v11 (by decide) (by decide) (by decide)⟩
end
set_option maxRecDepth 100000 in
set_option maxHeartbeats 12800000 in
theorem Beyonds_walk (A : Option Addr) (l : List Stp) (c : Nat) (H : Option Addr) (hv : List Dt) (hc : Nat) (A2 : Option Addr) (m : List Stp) (c2 : Nat) (stop : Int) (w : World) (hs : ScrArg w A l) (hh : DotsAt w H hv) (ht : ScrArg w A2 m) (hl : l.length ≤ 4611686018427387904) (hhl : hv.length ≤ 4611686018427387904) (hm : m.length ≤ 4611686018427387904) :
    Calls Try.prog 6 #[.slice A l.length c, .slice H hv.length hc, .slice A2 m.length c2, .int .i64 stop] w (BoolPost w true) := by
  have hk0 : Kept (fun _ => False) w ((w.alloc (.cells #[.slice A2 m.length c2] 24)).alloc (.cells #[.int .i64 stop] 3)) := ((Kept.refl _ _).alloc _).alloc _
  have HK0 := Lib.hid hk0
  have HS := Lib.hid hs
  have HT := Lib.hid ht
  have HH := Lib.hid hh
  have HB6 := Lib.hid ((Box.new w 24 #[.slice A2 m.length c2]).alloc (.cells #[.int .i64 stop] 3))
  have HB7 := Lib.hid ((Box.new (w.alloc (.cells #[.slice A2 m.length c2] 24)) 3 #[.int .i64 stop]).at_eq (show _ = w.heap.size + 1 by simp))
  have hfin : ∀ W, Kept (fun _ => False) w W → Calls Try.prog 11 #[] W fun e W' => e = .returned (.bool true) ∧ Kept (fun _ => False) w W' := fun W hk => (known_any W).mono fun e W' ⟨h1, h2⟩ => ⟨h1, hk.trans h2 fun _ _ e => e⟩
  have HFIN := Lib.hid hfin
  clear hfin hs ht hh hk0
  go_enter Try.func6, Try.ntmps6
  go_upto_region 1 with (fail)
  generalize (w.alloc (.cells #[.slice A2 m.length c2] 24)).alloc (.cells #[.int .i64 stop] 3) = w0 at HK0 HB6 HB7 ⊢
  have c6 : w0.cell? ⟨w.heap.size, 0, none⟩ = some (.slice A2 m.length c2) := by simpa using HB6.out.cell 0
  go_wp2_with (fail)
  refine (much_any A l c H hv.length hc w0 (HS.out.s.steps.fresh HK0.out) hl hhl).mono ?_
  unfold BoolPost
  rintro e w1 ⟨rfl, hk1⟩
  have HK1 := Lib.hid (HK0.out.trans hk1 fun _ _ e => e)
  have H61 := Lib.hid (HB6.out.kept hk1 id)
  have H71 := Lib.hid (HB7.out.kept hk1 id)
  clear hk1 HK0 HB6 HB7 c6
  cases hm1 : muchB l hv.length with
  | true =>
    clear hm1
    go_wp2_with (fail)
    refine (HFIN.out _ HK1.out).mono ?_
    rintro e w2 ⟨rfl, hk2⟩
    have HK2 := Lib.hid hk2
    clear hk2
    go_wp2
    go_ret
    exact ⟨rfl, HK2.out⟩
  | false =>
  obtain ⟨hok, hl200, hhv6⟩ := HS.out.ok hm1
  have HOK := Lib.hid hok
  clear hm1 hok
  have c6 : w1.cell? ⟨w.heap.size, 0, none⟩ = some (.slice A2 m.length c2) := by simpa using H61.out.cell 0
  go_wp2_with (fail)
  refine (much_any A2 m c2 none 0 0 w1 (HT.out.s.steps.fresh HK1.out) hm (by decide)).mono ?_
  unfold BoolPost
  rintro e w2 ⟨rfl, hk2⟩
  have HK2 := Lib.hid (HK1.out.trans hk2 fun _ _ e => e)
  have H62 := Lib.hid (H61.out.kept hk2 id)
  have H72 := Lib.hid (H71.out.kept hk2 id)
  clear hk2 HK1 H61 H71 c6
  cases hm1 : muchB m 0 with
  | true =>
    clear hm1
    go_wp2_with (fail)
    refine (HFIN.out _ HK2.out).mono ?_
    rintro e w3 ⟨rfl, hk3⟩
    have HK3 := Lib.hid hk3
    clear hk3
    go_wp2
    go_ret
    exact ⟨rfl, HK3.out⟩
  | false =>
  obtain ⟨hok, hm200, -⟩ := HT.out.ok hm1
  have HOM := Lib.hid hok
  clear hm1 hok
  have c6 : w2.cell? ⟨w.heap.size, 0, none⟩ = some (.slice A2 m.length c2) := by simpa using H62.out.cell 0
  by_cases hl40 : (l.length : Int) ≤ 40
  case neg =>
    have h1 : (40 : Int) < (l.length : Int) := by omega
    clear hl40
    go_wp2_with (fail)
    refine (HFIN.out _ HK2.out).mono ?_
    rintro e w3 ⟨rfl, hk3⟩
    have HK3 := Lib.hid hk3
    clear hk3
    go_wp2
    go_ret
    exact ⟨rfl, HK3.out⟩
  by_cases hm20 : (m.length : Int) ≤ 20
  case neg =>
    have h1 : (20 : Int) < (m.length : Int) := by omega
    have h2 : ¬ ((40 : Int) < (l.length : Int)) := by omega
    clear hm20 hl40
    go_wp2_with (fail)
    refine (HFIN.out _ HK2.out).mono ?_
    rintro e w3 ⟨rfl, hk3⟩
    have HK3 := Lib.hid hk3
    clear hk3
    go_wp2
    go_ret
    exact ⟨rfl, HK3.out⟩
  have h1 : ¬ ((40 : Int) < (l.length : Int)) := by omega
  have h2 : ¬ ((20 : Int) < (m.length : Int)) := by omega
  have hll : l.length ≤ 40 := by omega
  have hmm : m.length ≤ 20 := by omega
  have hd1 : decide ((40 : Int) < (l.length : Int)) = false := decide_eq_false h1
  have hd2 : decide ((20 : Int) < (m.length : Int)) = false := decide_eq_false h2
  clear hl40 hm20 h1 h2
  have HBE := Lib.hid (show Be w w2.heap.size w.heap.size (w.heap.size + 1) (w2.heap.size + 1) (w2.heap.size + 2) (w2.heap.size + 3) A2 m c2 stop Lg.zero RLg.zero ((((w2.alloc (.cells #[.slice none 0 0, .slice none 0 0, .slice none 0 0] 51)).alloc (.cells #[.pointer (some ⟨w2.heap.size, 0, none⟩)] 29)).alloc (.cells #[.slice none 0 0, .slice none 0 0] 35)).alloc (.cells #[.bool true] 4)) from by
    have hs := HK2.out.size
    have hk4 : Kept (fun _ => False) w2 ((((w2.alloc (.cells #[.slice none 0 0, .slice none 0 0, .slice none 0 0] 51)).alloc (.cells #[.pointer (some ⟨w2.heap.size, 0, none⟩)] 29)).alloc (.cells #[.slice none 0 0, .slice none 0 0] 35)).alloc (.cells #[.bool true] 4)) := ((((Kept.refl _ _).alloc _).alloc _).alloc _).alloc _
    have hk := HK2.out.trans hk4 fun _ _ e => e
    have hno' : ∀ {v : Value}, Apart Lg.zero.oV v := fun k e => by cases e
    refine ⟨⟨⟨⟨(LogAt.zero' w2).fresh ((((Kept.refl _ _).alloc _).alloc _).alloc _), hk, hs, fun k e => by cases e⟩, ROf.zero hk, hno', zero_says Lg.zero rfl rfl rfl⟩, ((Box.new _ _ _).at_eq (show _ = w2.heap.size + 2 by simp)).alloc _, by omega⟩, H62.out.kept hk4 id, H72.out.kept hk4 id, (((Box.new _ _ _).at_eq (show _ = w2.heap.size + 1 by simp)).alloc _).alloc _, (Box.new _ _ _).at_eq (show _ = w2.heap.size + 3 by simp)⟩)
  have HWP := Lib.hid HK2.out.size
  go_upto_region 6 with (fail)
  clear HK2 H62 H72 c6 hd1 hd2
  generalize (((w2.alloc (.cells #[.slice none 0 0, .slice none 0 0, .slice none 0 0] 51)).alloc (.cells #[.pointer (some ⟨w2.heap.size, 0, none⟩)] 29)).alloc (.cells #[.slice none 0 0, .slice none 0 0] 35)).alloc (.cells #[.bool true] 4) = w4 at HBE ⊢
  obtain ⟨p, hp⟩ : ∃ p, w2.heap.size = p := ⟨_, rfl⟩
  rw [hp] at HBE HWP ⊢
  clear hp
  have c11 : w4.cell? ⟨p + 3, 0, none⟩ = some (.bool true) := by simpa using HBE.out.v11.cell 0
  go_wp2_with (fail)
  go_loopw [12] (fun i wr => ∃ (k : Nat) (L : Lg) (R : RLg), i = .int .i64 k ∧ k ≤ l.length ∧ L.ops.length ≤ k ∧ Be w p w.heap.size (w.heap.size + 1) (p + 1) (p + 2) (p + 3) A2 m c2 stop L R wr) (fun i _ => l.length - (intOf i).toNat)
  case atStart => exact ⟨0, Lg.zero, RLg.zero, rfl, Nat.zero_le _, by simp [Lg.zero], HBE.out⟩
  case round =>
    obtain ⟨k, L, R, rfl, hk, hlk, hbe⟩ := hrel
    have HZ := Lib.hid hbe
    have c11 : wr.cell? ⟨p + 3, 0, none⟩ = some (.bool true) := by simpa using hbe.v11.cell 0
    clear HBE hbe
    by_cases hlt : k < l.length
    · obtain ⟨ad, rfl, -, -, -⟩ := HS.out.s.steps k hlt
      have HOKK := Lib.hid (HOK.out l[k] (List.getElem_mem hlt))
      have hk0 : (0 : Int) ≤ (k : Int) := by omega
      have hk1 : (k : Int) < (l.length : Int) := by omega
      have hk2 : ¬ ((l.length : Int) ≤ (k : Int)) := by omega
      go_upto_region 9 with (fail)
      have HZ9 := Lib.hid (HZ.out.fresh (Kept.refl (fun _ => False) wr).drew)
      clear HZ c11
      as_aux_lemma =>
        refine wp_region_held_drew (S := fun Wz => Kept (fun _ => False) w Wz ∧ Box Wz (p + 1) 29 #[.pointer (some ⟨p, 0, none⟩)]) (by kernel_rfl) ⟨HZ9.out.pl.b.l.k, HZ9.out.v9⟩ fun hS => ?_
        generalize wr.drew = w9 at HZ9 hS ⊢
        refine held_takeTo 46 (i := 0) (v := .pointer (some ⟨p, 0, none⟩)) rfl rfl (by kernel_rfl) (by kernel_rfl) (by kernel_rfl) (fun _ _ _ h => h) rfl hS (fun Wz hW => by (have h9 : Wz.cell? ⟨p + 1, 0, none⟩ = some (.pointer (some ⟨p, 0, none⟩)) := (by simpa using hW.2.cell 0); go_simp)) ?_
        simp only [List.setIfInBounds_toArray, List.set_cons_zero, List.set_cons_succ]
        refine held_takeTo 48 (i := 2) (v := .slice (some ad) l.length c) rfl rfl (by kernel_rfl) (by kernel_rfl) (by kernel_rfl) (fun _ _ _ h => h) rfl hS (fun Wz hW => by go_simp) ?_
        simp only [List.setIfInBounds_toArray, List.set_cons_zero, List.set_cons_succ]
        refine held_takeTo 49 (i := 3) (v := .int .i64 k) rfl rfl (by kernel_rfl) (by kernel_rfl) (by kernel_rfl) (fun _ _ _ h => h) rfl hS (fun Wz hW => by go_simp) ?_
        simp only [List.setIfInBounds_toArray, List.set_cons_zero, List.set_cons_succ]
        refine held_takeTo 50 (i := 4) (v := .pointer (some (ad.add (k * 13)))) rfl rfl (by kernel_rfl) (by kernel_rfl) (by kernel_rfl) (fun _ _ _ h => h) rfl hS (fun Wz hW => by go_simp) ?_
        simp only [List.setIfInBounds_toArray, List.set_cons_zero, List.set_cons_succ]
        refine held_takeTo 51 (i := 5) (v := .agg l[k].c) rfl rfl (by kernel_rfl) (by kernel_rfl) (by kernel_rfl) (fun _ _ _ h => h) rfl hS (fun Wz hW => HS.out.s.steps.load hW.1 hlt _ _ rfl ad rfl rfl) ?_
        simp only [List.setIfInBounds_toArray, List.set_cons_zero, List.set_cons_succ]
        obtain ⟨c0, c1⟩ := HZ9.out.pl.cells
        refine held_one (i := 1) (by kernel_rfl) rfl fun K hK => ?_
        go_wp2_with (fail)
        refine hK.out _ _ hS fun _ => ?_
        clear hK K
        clear c0 c1
        refine held_one (i := 6) (by kernel_rfl) rfl fun K hK => ?_
        go_wp2_with (fail)
        refine (step_any w _ p L R l[k] HZ9.out.pl.b HOKK.out (by omega)).mono ?_
        rintro e w11 ⟨L', R', rfl, hd', hbo, hk11, hg11, hr11⟩
        have hS11 : Kept (fun _ => False) w w11 ∧ Box w11 (p + 1) 29 #[.pointer (some ⟨p, 0, none⟩)] := ⟨hbo.l.k, HZ9.out.pl.b.box HZ9.out.v9 (by decide) (by decide) hk11⟩
        have HLK := Lib.hid (step_len' L L' _ _ _ hd' hlk)
        have HNX := Lib.hid (fun (X2 : World) hx hk2 => HZ9.out.step hbo hk11 (X2 := X2) hx hk2)
        have HBX := Lib.hid (HZ9.out.pl.b.box HZ9.out.pl.x (by decide) (by decide) hk11)
        clear hd' hbo hk11 hg11 hr11 HZ9
        go_wp2_with (fail)
        refine hK.out _ _ hS11 fun _ => ?_
        clear hK K
        refine held_takeTo 45 (i := 7) (v := .tuple #[.agg R'.c, .bool true]) rfl rfl (by kernel_rfl) (by kernel_rfl) (by kernel_rfl) (fun _ _ _ h => h) rfl hS11 (fun Wz hW => by go_simp) ?_
        simp only [List.setIfInBounds_toArray, List.set_cons_zero, List.set_cons_succ]
        refine held_takeTo 53 (i := 8) (v := .agg R'.c) rfl rfl (by kernel_rfl) (by kernel_rfl) (by kernel_rfl) (fun _ _ _ h => h) rfl hS11 (fun Wz hW => by go_simp) ?_
        simp only [List.setIfInBounds_toArray, List.set_cons_zero, List.set_cons_succ]
        refine held_takeTo 54 (i := 9) (v := .bool true) rfl rfl (by kernel_rfl) (by kernel_rfl) (by kernel_rfl) (fun _ _ _ h => h) rfl hS11 (fun Wz hW => by go_simp) ?_
        simp only [List.setIfInBounds_toArray, List.set_cons_zero, List.set_cons_succ]
        refine held_one (i := 10) (by kernel_rfl) rfl fun K hK => ?_
        refine wpList_store_box rfl 35 _ _ rfl (p + 2) (RLg.c R') rfl rfl 35 _ HBX.out (size_RL.trans rfl) rfl (RLg.c_one _) ?_
        intro w13 HB13 hk13
        have HZ13 := Lib.hid (HNX.out w13 HB13.out hk13)
        have hS13 : Kept (fun _ => False) w w13 ∧ Box w13 (p + 1) 29 #[.pointer (some ⟨p, 0, none⟩)] := ⟨HZ13.out.pl.b.l.k, HZ13.out.v9⟩
        clear hk13 HB13 HNX HBX
        refine hK.out _ _ hS13 fun _ => ?_
        clear hK K
        have c11 : w13.cell? ⟨p + 3, 0, none⟩ = some (.bool true) := by simpa using HZ13.out.v11.cell 0
        have f11 := HZ13.out.v11.frozen 0
        have HZ14 := Lib.hid (HZ13.out.set11 (by have := HWP.out; omega))
        refine held_one (i := 11) (by kernel_rfl) rfl fun K hK => ?_
        go_wp2_with (fail)
        refine hK.out _ _ ⟨HZ14.out.pl.b.l.k, HZ14.out.v9⟩ fun _ => ?_
        clear hK K
        refine wpAnyH_done (by kernel_rfl) ?_ _
        go_wp2_with (fail)
        go_roundw
        case rel => exact ⟨k + 1, L', R', by go_num, by omega, HLK.out, HZ14.out⟩
        case measure => simp [intOf]; omega
    · obtain rfl : k = l.length := by omega
      obtain ⟨c0, c1⟩ := HZ.out.pl.cells
      clear hlt hk
      go_upto_region 12 with (fail)
      have HLL := Lib.hid (Nat.le_trans hlk hll)
      clear c11 hlk
      go_wp2_with (fail)
      refine (RBeyond_any R H hv hc wr HZ.out.pl.b.r.at (HH.out.fresh HZ.out.pl.b.l.k) (by omega)).mono ?_
      rintro e w5 ⟨A3, c3, rfl, ho5, hk5⟩
      have HZ5 := Lib.hid (HZ.out.fresh hk5)
      have HO5 := Lib.hid ho5
      have HA5 := Lib.hid (show Apart L.oV (.slice A3 (lacks hv R.ops).length c3) from fun k e1 e2 => by have := (HZ.out.pl.b.l.l.o.lt k e1).2; have := (ho5.lt k e2).1; omega)
      have hk56 : Kept (fun _ => False) w5 (w5.alloc (.cells #[.slice A3 (lacks hv R.ops).length c3] 33)) := (Kept.refl _ _).alloc _
      have HB13 := Lib.hid (Box.new w5 33 #[.slice A3 (lacks hv R.ops).length c3])
      have HZ6 := Lib.hid (HZ5.out.fresh hk56)
      have HO6 := Lib.hid (own_base (hk56.own HO5.out fun _ _ => id) (Nat.zero_le _))
      obtain ⟨zs, hzs⟩ : ∃ zs, lacks hv R.ops = zs := ⟨_, rfl⟩
      have HZS := Lib.hid hzs
      rw [hzs] at HZ6 HO6 HB13 HA5 ⊢
      clear ho5 hk5 hk56 HZ HZ5 HO5 c0 c1 hzs
      go_upto_region 13 with (fail)
      generalize w5.alloc (.cells #[.slice A3 zs.length c3] 33) = w6 at HZ6 HO6 HB13 ⊢
      generalize w5.heap.size = b13 at HB13 ⊢
      have c9 : w6.cell? ⟨p + 1, 0, none⟩ = some (.pointer (some ⟨p, 0, none⟩)) := by simpa using HZ6.out.v9.cell 0
      go_wp2_with (fail)
      refine (Beyond_any p L H hv hc w6 HZ6.out.pl.b.l.l (HH.out.fresh HZ6.out.pl.b.l.k) (by omega)).mono ?_
      rintro e w7 ⟨B, A4, c4, rfl, hit, hB, hA4, hk7⟩
      have HA7 := Lib.hid (show Apart L.oV (.slice A4 (lacks hv L.ops).length c4) from fun k e1 e2 => by have := (HZ6.out.pl.b.l.l.o.lt k e1).2; have := hA4 k e2; omega)
      have hN : ∀ W : World, (binOp .eql 56 (.func (.func 51) #[] #[.pointer (some ⟨B, 0, none⟩)]) .nilFunc).run Try.prog W = .ok (.bool false) W := fun _ => rfl
      have hSt := fun (a : Addr) (W : World) (md : Mode) => run_store Try.prog W a (.func (.func 51) #[] #[.pointer (some ⟨B, 0, none⟩)]) md rfl
      have hk78 : Kept (fun _ => False) w7 ((w7.alloc (.cells #[.func (.func 51) #[] #[.pointer (some ⟨B, 0, none⟩)]] 56)).alloc (.cells #[.int .i64 0] 3)) := ((Kept.refl _ _).alloc _).alloc _
      have HB14 := Lib.hid ((Box.new w7 56 #[.func (.func 51) #[] #[.pointer (some ⟨B, 0, none⟩)]]).alloc (.cells #[.int .i64 0] 3))
      have HB15 := Lib.hid ((Box.new (w7.alloc (.cells #[.func (.func 51) #[] #[.pointer (some ⟨B, 0, none⟩)]] 56)) 3 #[.int .i64 0]).at_eq (show _ = w7.heap.size + 1 by simp))
      have hk68 := hk7.trans hk78 fun _ _ e => e
      have HZ8 := Lib.hid (HZ6.out.fresh hk68)
      have HIT := Lib.hid (hit.fresh hk78)
      have HO8 := Lib.hid (hk68.own HO6.out fun _ _ => id)
      have HB8 := Lib.hid (HB13.out.kept hk68 id)
      have HN15 := Lib.hid (show w7.heap.size + 1 ≠ w.heap.size + 1 by have := HZ6.out.v7.lt; have := hk7.size; omega)
      have HW7 := Lib.hid (show w.heap.size ≤ w7.heap.size from (HZ6.out.fresh hk7).pl.b.l.k.size)
      obtain ⟨xs, hxs⟩ : ∃ xs, lacks hv L.ops = xs := ⟨_, rfl⟩
      have HXS := Lib.hid hxs
      rw [hxs] at HIT HA7
      clear hit hB hA4 hk7 hk78 hk68 HZ6 HO6 HB13 c9 hxs
      go_upto_region 17 with (fail)
      generalize (w7.alloc (.cells #[.func (.func 51) #[] #[.pointer (some ⟨B, 0, none⟩)]] 56)).alloc (.cells #[.int .i64 0] 3) = w8 at HZ8 HIT HO8 HB8 HB14 HB15 ⊢
      generalize w7.heap.size = b14 at HB14 HB15 HN15 HW7 ⊢
      clear hN hSt
      have HXM := Lib.hid (show ∀ x ∈ xs, x ∈ L.ops from fun x hx => by
        rw [← HXS.out] at hx
        unfold lacks at hx
        split at hx
        · exact (List.mem_filter.1 hx).1
        · cases hx)
      have HZM := Lib.hid (show ∀ z ∈ zs, z ∈ R.ops from fun z hz => by
        rw [← HZS.out] at hz
        unfold lacks at hz
        split at hz
        · exact (List.mem_filter.1 hz).1
        · cases hz)
      have HMAP := Lib.hid (show zs.map (·.o) = xs.map (·.o) by rw [← HZS.out, ← HXS.out]; exact lacks_map HZ8.out.pl.b.says.ops)
      have HXL := Lib.hid (show xs.length ≤ 40 by
        rw [← HXS.out]
        refine Nat.le_trans ?_ HLL.out
        unfold lacks
        split
        · exact List.length_filter_le _ _
        · simp)
      obtain ⟨d, hd⟩ : ∃ d : Bk, d = ⟨p, w.heap.size, w.heap.size + 1, p + 1, p + 2, p + 3, b13, b14, b14 + 1, B, A2, m, c2, stop, A3, c3, zs, A4, c4, xs⟩ := ⟨_, rfl⟩
      have HOKD := Lib.hid (show BkOk w d from by
        subst hd
        exact ⟨HN15.out, by have := HWP.out; simp only; omega, by have := HW7.out; simp only; omega, fun z hz => HZ8.out.pl.b.r.ats z (HZM.out z hz), fun x hx => HZ8.out.pl.b.l.l.small x (HXM.out x hx), HMAP.out, by have := HXL.out; simp only; omega, hmm, HT.out.s.steps, HOM.out⟩)
      have HJ0 := Lib.hid (show BeJ w d ((0 : Nat) : Int) L R w8 from by
        subst hd
        exact ⟨HZ8.out.pl, HZ8.out.v6, HZ8.out.v7, HZ8.out.v9, HZ8.out.v11, HB8.out, HB14.out, HB15.out, HO8.out, HIT.out.box, HIT.out.row, fun x hx => HZ8.out.pl.b.l.l.own x (HXM.out x hx), HA5.out, HA7.out⟩)
      have HDX := Lib.hid (show d.xs = xs ∧ d.zs = zs by subst hd; exact ⟨rfl, rfl⟩)
      have c14 : w8.cell? ⟨b14, 0, none⟩ = some (.func (.func 51) #[] #[.pointer (some ⟨B, 0, none⟩)]) := by simpa using HB14.out.cell 0
      clear HZ8 HIT HO8 HB8 HB14 HB15 HA5 HA7 HN15 HW7 HXS HZS HXM HZM
      go_wp2_with (fail)
      refine (Beyond1_any 27 #[.pointer (some ⟨p + 3, 0, none⟩), .pointer (some ⟨b14 + 1, 0, none⟩), .pointer (some ⟨b13, 0, none⟩), .pointer (some ⟨w.heap.size, 0, none⟩), .pointer (some ⟨p + 1, 0, none⟩), .pointer (some ⟨p + 2, 0, none⟩), .pointer (some ⟨b14, 0, none⟩), .pointer (some ⟨w.heap.size + 1, 0, none⟩)] (enters_of Try.func27 (by kernel_rfl) rfl) B xs A4 c4
        (fun k W => ∃ (L : Lg) (R : RLg), L.ops.length ≤ 40 + k ∧ BeJ w d k L R W) (fun _ _ => False)
        (fun k W ⟨L, R, _, h⟩ => by subst hd; exact h.it HOKD.out) (fun k W W' ⟨L, R, h1, h⟩ hk => ⟨L, R, h1, h.fresh hk⟩) ?_ w8 ⟨L, R, by have := HLL.out; omega, HJ0.out⟩).mono ?_
      · intro k hk y W0 W _ hk0 hJ hyo hyw
        obtain ⟨L, R, hlk, hj⟩ := hJ
        have hcl := Beyonds1_any w d L R k W y HOKD.out (by rw [HDX.out.1]; exact hk) hj (by simp only [HDX.out.1]; exact hyo) hyw.at hlk
        subst hd
        refine hcl.mono ?_
        rintro e W' ⟨rfl, L', R', hl', hz⟩
        have e1 : ((k + 1 : Nat) : Int) = (k : Int) + 1 := by omega
        exact .inl ⟨rfl, L', R', hl', by rw [e1]; exact hz⟩
      rintro e w9 ⟨⟨v, rfl⟩, hend⟩
      have hend' : ∃ (L : Lg) (R : RLg), L.ops.length ≤ 40 + xs.length ∧ BeJ w d xs.length L R w9 := by
        rcases hend with h | ⟨k, _, _, h⟩
        · exact h
        · exact h.elim
      obtain ⟨L', R', hl', hz⟩ := hend'
      have HZ9 := Lib.hid hz
      have hl201 : L'.ops.length ≤ 201 := by have := HXL.out; omega
      clear hend hz HJ0 c14 hl'
      go_upto_region 18 with (fail)
      have HZ10 := Lib.hid (HZ9.out.fresh (Kept.refl (fun _ => False) w9).drew)
      clear HZ9
      have HQ := Lib.hid (show BkOk w d ∧ d.xs = xs ∧ d.zs = zs from ⟨HOKD.out, HDX.out⟩)
      have HROW := Lib.hid (fun (W : World) (hk : Kept (fun _ => False) w9.drew W) => show RowAt W A3 c3 zs from by have := (HZ10.out.fresh hk).zrow HOKD.out; subst hd; exact this)
      have HIT := Lib.hid (fun (W : World) (hk : Kept (fun _ => False) w9.drew W) => show ItAt W B xs A4 c4 from by have := (HZ10.out.fresh hk).it HOKD.out; subst hd; exact this)
      have HCE := Lib.hid (fun (W : World) (hk : Kept (fun _ => False) w9.drew W) => show W.cell? ⟨p + 3, 0, none⟩ = some (.bool true) ∧ W.cell? ⟨b14 + 1, 0, none⟩ = some (.int .i64 xs.length) ∧ W.cell? ⟨b13, 0, none⟩ = some (.slice A3 zs.length c3) ∧ W.cell? ⟨b14, 0, none⟩ = some (.func (.func 51) #[] #[.pointer (some ⟨B, 0, none⟩)]) ∧ W.cell? ⟨p + 1, 0, none⟩ = some (.pointer (some ⟨p, 0, none⟩)) from by
        have h := HZ10.out.fresh hk
        subst hd
        exact ⟨by simpa using h.v11.cell 0, by simpa using h.v15.cell 0, by simpa using h.v13.cell 0, by simpa [itV] using h.v14.cell 0, by simpa using h.v9.cell 0⟩)
      have HPL := Lib.hid (show PlAt w p (p + 2) L' R' w9.drew from by have := HZ10.out.pl; subst hd; exact this)
      have HSMX := Lib.hid (show ∀ x ∈ xs, x.o.Small from by have := HOKD.out.xsm; subst hd; exact this)
      clear HZ10 HQ HOKD HDX hd
      have HZL := Lib.hid (show zs.length = xs.length by simpa using congrArg List.length HMAP.out)
      as_aux_lemma =>
        refine wp_region_held_drew (S := fun Wz => Kept (fun _ => False) w9.drew Wz) (by kernel_rfl) (Kept.refl _ _) fun hS => ?_
        generalize w9.drew = w10 at HROW HIT HCE HPL hS ⊢
        refine held_takeTo 68 (i := 0) (v := .bool true) rfl rfl (by kernel_rfl) (by kernel_rfl) (by kernel_rfl) (fun _ _ _ h => h) rfl hS (fun Wz hW => by (obtain ⟨e1, e2, e3, e4, e5⟩ := HCE.out Wz hW; go_simp)) ?_
        simp only [List.setIfInBounds_toArray, List.set_cons_zero, List.set_cons_succ]
        refine held_takeTo 69 (i := 1) (v := .bool true) rfl rfl (by kernel_rfl) (by kernel_rfl) (by kernel_rfl) (fun _ _ _ h => h) rfl hS (fun Wz hW => by go_simp) ?_
        simp only [List.setIfInBounds_toArray, List.set_cons_zero, List.set_cons_succ]
        refine held_takeG 70 (i := 2) (v := .int .i64 xs.length) rfl rfl (by kernel_rfl) (by kernel_rfl) (by kernel_rfl) (fun _ _ _ h => h) (by rfl) hS (fun Wz hW => by (obtain ⟨e1, e2, e3, e4, e5⟩ := HCE.out Wz hW; go_simp)) ?_
        simp only [List.setIfInBounds_toArray, List.set_cons_zero, List.set_cons_succ]
        refine held_takeG 71 (i := 3) (v := .slice A3 zs.length c3) rfl rfl (by kernel_rfl) (by kernel_rfl) (by kernel_rfl) (fun _ _ _ h => h) (by rfl) hS (fun Wz hW => by (obtain ⟨e1, e2, e3, e4, e5⟩ := HCE.out Wz hW; go_simp)) ?_
        simp only [List.setIfInBounds_toArray, List.set_cons_zero, List.set_cons_succ]
        refine held_takeG 72 (i := 4) (v := .int .i64 zs.length) rfl rfl (by kernel_rfl) (by kernel_rfl) (by kernel_rfl) (fun _ _ _ h => h) (by rfl) hS (fun Wz hW => by go_simp) ?_
        simp only [List.setIfInBounds_toArray, List.set_cons_zero, List.set_cons_succ]
        refine held_takeG 73 (i := 5) (v := .bool true) rfl rfl (by kernel_rfl) (by kernel_rfl) (by kernel_rfl) (fun _ _ _ h => h) (by rfl) hS (fun Wz hW => by (have hzl := HZL.out; rw [hzl]; go_simp)) ?_
        simp only [List.setIfInBounds_toArray, List.set_cons_zero, List.set_cons_succ]
        refine held_takeTo 74 (i := 6) (v := .bool true) rfl rfl (by kernel_rfl) (by kernel_rfl) (by kernel_rfl) (fun _ _ _ h => h) rfl hS (fun Wz hW => by go_simp) ?_
        simp only [List.setIfInBounds_toArray, List.set_cons_zero, List.set_cons_succ]
        refine held_takeTo 75 (i := 7) (v := .bool true) rfl rfl (by kernel_rfl) (by kernel_rfl) (by kernel_rfl) (fun _ _ _ h => h) rfl hS (fun Wz hW => by go_simp) ?_
        simp only [List.setIfInBounds_toArray, List.set_cons_zero, List.set_cons_succ]
        refine held_takeG 76 (i := 8) (v := .func (.func 51) #[] #[.pointer (some ⟨B, 0, none⟩)]) rfl rfl (by kernel_rfl) (by kernel_rfl) (by kernel_rfl) (fun _ _ _ h => h) (by rfl) hS (fun Wz hW => by (obtain ⟨e1, e2, e3, e4, e5⟩ := HCE.out Wz hW; go_simp)) ?_
        simp only [List.setIfInBounds_toArray, List.set_cons_zero, List.set_cons_succ]
        refine held_takeG 78 (i := 10) (v := .slice A3 zs.length c3) rfl rfl (by kernel_rfl) (by kernel_rfl) (by kernel_rfl) (fun _ _ _ h => h) (by rfl) hS (fun Wz hW => by (obtain ⟨e1, e2, e3, e4, e5⟩ := HCE.out Wz hW; go_simp)) ?_
        simp only [List.setIfInBounds_toArray, List.set_cons_zero, List.set_cons_succ]
        refine held_one (i := 9) (by kernel_rfl) rfl fun K hK => ?_
        go_wp2_with (fail)
        refine (rest_any B xs A4 c4 201 w10 (HIT.out w10 hS) (by decide) (by decide)).mono ?_
        rintro e w11 ⟨ys, RA, rc, rfl, hys, ho11, hn11, hk11⟩
        have HYS := Lib.hid (show zs.map (·.o) = ys.map (·.o) by rw [hys, HMAP.out, List.take_of_length_le (by rw [List.length_map]; have := HXL.out; omega)])
        have HRY := Lib.hid (RowAt.of ho11 hn11)
        clear hys ho11 hn11
        go_wp2_with (fail)
        refine hK.out _ _ hk11 fun _ => ?_
        clear hK K
        refine held_one (i := 11) (by kernel_rfl) rfl fun K hK => ?_
        go_wp2_with (fail)
        refine (ops_true RA A3 ys zs rc c3 w11 HRY.out (HROW.out w11 hk11) HYS.out (by have h1 := congrArg List.length HYS.out; rw [List.length_map, List.length_map] at h1; have := HXL.out; have := HZL.out; omega) (small_map (HYS.out.symm.trans HMAP.out) HSMX.out)).mono ?_
        unfold BoolPost
        rintro e w12 ⟨rfl, hk12⟩
        have hS12 := hk11.trans hk12 fun _ _ e => e
        clear hk12 HRY HYS hk11
        go_wp2_with (fail)
        refine hK.out _ _ hS12 fun _ => ?_
        clear hK K
        refine held_takeTo 80 (i := 12) (v := .bool true) rfl rfl (by kernel_rfl) (by kernel_rfl) (by kernel_rfl) (fun _ _ _ h => h) rfl hS12 (fun Wz hW => by go_simp) ?_
        simp only [List.setIfInBounds_toArray, List.set_cons_zero, List.set_cons_succ]
        refine held_takeTo 81 (i := 13) (v := .bool true) rfl rfl (by kernel_rfl) (by kernel_rfl) (by kernel_rfl) (fun _ _ _ h => h) rfl hS12 (fun Wz hW => by go_simp) ?_
        simp only [List.setIfInBounds_toArray, List.set_cons_zero, List.set_cons_succ]
        refine held_takeG 82 (i := 14) (v := .pointer (some ⟨p, 0, none⟩)) rfl rfl (by kernel_rfl) (by kernel_rfl) (by kernel_rfl) (fun _ _ _ h => h) (by rfl) hS12 (fun Wz hW => by (obtain ⟨e1, e2, e3, e4, e5⟩ := HCE.out Wz hW; go_simp)) ?_
        simp only [List.setIfInBounds_toArray, List.set_cons_zero, List.set_cons_succ]
        refine held_takeG 83 (i := 15) (v := .agg R'.c) rfl rfl (by kernel_rfl) (by kernel_rfl) (by kernel_rfl) (fun _ _ _ h => h) (by rfl) hS12 (fun Wz hW => run_load_RL _ _ rfl (p + 2) rfl (HPL.out.fresh hW).x) ?_
        simp only [List.setIfInBounds_toArray, List.set_cons_zero, List.set_cons_succ]
        refine held_one (i := 16) (by kernel_rfl) rfl fun K hK => ?_
        go_wp2_with (fail)
        refine (all_any p L' R' w12 (HPL.out.fresh hS12).b.l.l (HPL.out.fresh hS12).b.r.at HPL.out.b.says hl201).mono ?_
        unfold BoolPost
        rintro e w13 ⟨rfl, hk13⟩
        have hS13 := hS12.trans hk13 fun _ _ e => e
        clear hk13 hS12
        go_wp2_with (fail)
        refine hK.out _ _ hS13 fun _ => ?_
        clear hK K
        refine held_takeTo 85 (i := 17) (v := .bool true) rfl rfl (by kernel_rfl) (by kernel_rfl) (by kernel_rfl) (fun _ _ _ h => h) rfl hS13 (fun Wz hW => by go_simp) ?_
        simp only [List.setIfInBounds_toArray, List.set_cons_zero, List.set_cons_succ]
        refine held_takeTo 86 (i := 18) (v := .bool true) rfl rfl (by kernel_rfl) (by kernel_rfl) (by kernel_rfl) (fun _ _ _ h => h) rfl hS13 (fun Wz hW => by go_simp) ?_
        simp only [List.setIfInBounds_toArray, List.set_cons_zero, List.set_cons_succ]
        refine held_one (i := 19) (by kernel_rfl) rfl fun K hK => ?_
        go_wp2_with (fail)
        refine (known_any w13).mono ?_
        unfold BoolPost
        rintro e w14 ⟨rfl, hk14⟩
        have hS14 := hS13.trans hk14 fun _ _ e => e
        clear hk14 hS13
        go_wp2_with (fail)
        refine hK.out _ _ hS14 fun _ => ?_
        clear hK K
        refine held_one (i := 20) (by kernel_rfl) rfl fun K hK => ?_
        go_wp2_with (fail)
        refine hK.out _ _ hS14 fun _ => ?_
        clear hK K
        refine held_one (i := 21) (by kernel_rfl) rfl fun K hK => ?_
        go_wp2_with (fail)
        refine hK.out _ _ hS14 fun _ => ?_
        clear hK K
        refine wpAnyH_done (by kernel_rfl) ?_ _
        have HKF := Lib.hid (HPL.out.fresh hS14).b.l.k
        clear hS hS14
        go_wp2_with (fail)
        go_ret
        exact ⟨rfl, HKF.out⟩

end Go.Proofs.Ytnfehkncfjgeeaa
