/- Pieces of other texts of ours that the images need, without what those texts lean on. · image.vectors walked. Condition: the image lies in memory; nothing is longer than a million. · The walks of hearsayref6.IsID, After, Compare, Check: of runs it tells what chkR says. Conditions: the numbers are those of Go's int. -/
import Derived.Test.YtnajbkccaclkcaaGreatIM6
import Derived.Test.YtnajbkccaclkcaaGreatIM22
import Derived.Test.YtnajbkccaclkcaaGreatIM16
import Derived.Test.YtnajbkccaclkcaaGreatIM8
import Derived.Recover
import Derived.WalkLawsBesides
import Derived.Test.YtnajbkccaclkcaaGreatIM10
import Derived.Test.YtnajbkccaclkcaaGreatIM11
import Derived.Test.YtnajbkccaclkcaaGreatIM5
import Derived.Test.YtnajbkccaclkcaaGreatIM4
namespace Go.Proofs.YtnajbkccaclkcaaGreat
open Go Go.RowKit

structure Lop.Nil (x : Lop) : Prop where
  d : x.dA = none → x.dc = 0
  g : x.gA = none → x.gc = 0
theorem DotsAt.pre {w : World} {A : Option Addr} {l m : List Dt} (h : DotsAt w A (l ++ m)) : DotsAt w A l := fun k hk => by
  have := h k (by rw [List.length_append]; omega)
  rwa [List.getElem_append_left hk] at this
theorem RunsAt.pre {w : World} {A : Option Addr} {l m : List Rn} (h : RunsAt w A (l ++ m)) : RunsAt w A l := fun k hk => by
  have := h k (by rw [List.length_append]; omega)
  rwa [List.getElem_append_left hk] at this
theorem DotsAt.nilness {w : World} {A : Option Addr} {l : List Dt} {c : Nat} (h : DotsAt w A l) (hc : A = none → c = 0) : A = none → l.length = 0 ∧ c = 0 := by
  rintro rfl
  refine ⟨?_, hc rfl⟩
  rcases Nat.eq_zero_or_pos l.length with h0 | h0
  · exact h0
  · obtain ⟨ad, e, _⟩ := h 0 h0
    cases e
theorem RunsAt.nilness {w : World} {A : Option Addr} {l : List Rn} {c : Nat} (h : RunsAt w A l) (hc : A = none → c = 0) : A = none → l.length = 0 ∧ c = 0 := by
  rintro rfl
  refine ⟨?_, hc rfl⟩
  rcases Nat.eq_zero_or_pos l.length with h0 | h0
  · exact h0
  · obtain ⟨ad, e, _⟩ := h 0 h0
    cases e
theorem wpList_unguard {P : Program} {ops : Array Oper} {Q : Exit → Act → World → Prop} {a : Act} {w : World} {rest : List Oper} {o : Oper} (hw : Region.wanted o (yielded ops a.tmps) = true) (h : wpList P ops Q ({ o with guard := none } :: rest) a w) : wpList P ops Q (o :: rest) a w := by
  unfold wpList at h ⊢
  rw [if_pos hw]
  rw [if_pos (by rfl)] at h
  exact h
theorem dots_one_box {w : World} {g : Nat} {a b : Int} {T : TypeId} (h : Box w g T #[.int .i64 a, .int .i64 b]) : DotsAt w (some ⟨g, 0, none⟩) [⟨a, b⟩] := by
  intro k hk
  obtain rfl : k = 0 := by simp at hk; omega
  exact ⟨_, rfl, (h.cell 0).trans rfl, (h.cell 1).trans rfl⟩
theorem results_two_cells {fn : Func} {p q : Tmp} {ty ty' : TypeId} (h : fn.results = #[.cell p ty, .cell q ty']) (tmps : Array Value) (w : World) (v u : Value) (g g' : Nat)
    (hp : tmps.getD p undef = .pointer (some ⟨g, 0, none⟩)) (hl : (loadVar ty ⟨g, 0, none⟩).run Tryz.prog w = .ok v w)
    (hq : tmps.getD q undef = .pointer (some ⟨g', 0, none⟩)) (hl' : (loadVar ty' ⟨g', 0, none⟩).run Tryz.prog w = .ok u w) :
    (results fn tmps).run Tryz.prog w = .ok (.tuple #[v, u]) w := by
  have hp' : tmps[p]?.getD undef = .pointer (some ⟨g, 0, none⟩) := by simpa using hp
  have hq' : tmps[q]?.getD undef = .pointer (some ⟨g', 0, none⟩) := by simpa using hq
  simp [results, h, hp', hq', asAddr, hl, hl']
theorem load_ER {w : World} {g : Nat} {e : Int} (hb : Box w g 32 #[.int .i64 e]) : (loadVar 32 ⟨g, 0, none⟩).run Tryz.prog w = .ok (.int .i64 e) w := by
  have h0 : w.cell? ⟨g, 0, none⟩ = some (.int .i64 e) := (hb.cell 0).trans rfl
  simp [go_sem, h0]
end Go.Proofs.YtnajbkccaclkcaaGreat

namespace Go.Proofs.YtnajbkccaclkcaaGreat
open Go Go.RowKit

/-- Why the vectors and the clock are none. -/
def vecE (v b : List Dt) (clock : Int) : Int := firstE [checkV v, checkV b, if (!coversR (says v) (says b)) = true then 9 else 0, if (decide (clock < 0) || decide (2147483647 < clock)) = true then 6 else 0]

set_option maxRecDepth 100000 in
set_option maxHeartbeats 2000000 in
theorem vectors_any (m : Im) (w : World) (h : m.At w) (hs : m.Small) : Calls Tryz.prog 27 #[.agg m.c] w (IntPost w (vecE m.v m.b m.clock)) := by
  obtain ⟨v, vA, vc, b, bA, bc, clock, log, lA, lc, nodes, nA, nc, joined, jA, jc, left, eA, ec, epoch⟩ := m
  have hb := Box.new w 28 (Im.c ⟨v, vA, vc, b, bA, bc, clock, log, lA, lc, nodes, nA, nc, joined, jA, jc, left, eA, ec, epoch⟩)
  have hk := (Kept.refl (fun _ => False) w).alloc (.cells (Im.c ⟨v, vA, vc, b, bA, bc, clock, log, lA, lc, nodes, nA, nc, joined, jA, jc, left, eA, ec, epoch⟩) 28)
  unfold Im.c at hb hk ⊢
  have hl1 : v.length ≤ 4611686018427387904 := by have := hs.v; simp only at this; omega
  have hl2 : b.length ≤ 4611686018427387904 := by have := hs.b; simp only at this; omega
  have hv := h.v
  have hvb := h.b
  simp only at hv hvb ⊢
  obtain ⟨w1, hw1⟩ : ∃ w1, w.alloc (.cells #[.slice vA v.length vc, .slice bA b.length bc, .int .i64 clock, .slice lA log.length lc, .slice nA nodes.length nc, .slice jA joined.length jc, .slice eA left.length ec, .int .i64 epoch] 28) = w1 := ⟨_, rfl⟩
  rw [hw1] at hb hk
  obtain ⟨g, hg⟩ : ∃ g, w.heap.size = g := ⟨_, rfl⟩
  rw [hg] at hb
  have z0 : w1.cell? ⟨g, 0, none⟩ = some (.slice vA v.length vc) := by simpa using hb.cell 0
  have z1 : w1.cell? ⟨g, 1, none⟩ = some (.slice bA b.length bc) := by simpa using hb.cell 1
  have z2 : w1.cell? ⟨g, 2, none⟩ = some (.int .i64 clock) := by simpa using hb.cell 2
  have H1 := Lib.hid (fun W (h : Kept (fun _ => False) w1 W) => Check_any vA v vc W ((hv.fresh hk).fresh h) hl1)
  have H2 := Lib.hid (fun W (h : Kept (fun _ => False) w1 W) => Check_any bA b bc W ((hvb.fresh hk).fresh h) hl2)
  have H3 := Lib.hid (fun W (h : Kept (fun _ => False) w1 W) => Covers_any vA bA v b vc bc W ((hv.fresh hk).fresh h) ((hvb.fresh hk).fresh h) hl1 hl2)
  have HK := Lib.hid hk
  have HW := Lib.hid hw1
  have HG := Lib.hid hg
  unfold vecE
  obtain ⟨e1, he1⟩ : ∃ e1, checkV v = e1 := ⟨_, rfl⟩
  obtain ⟨e2, he2⟩ : ∃ e2, checkV b = e2 := ⟨_, rfl⟩
  obtain ⟨cv, hcv⟩ : ∃ cv, coversR (says v) (says b) = cv := ⟨_, rfl⟩
  rw [he1] at H1 ⊢
  rw [he2] at H2 ⊢
  rw [hcv] at H3 ⊢
  have HX := Lib.hid hcv
  obtain ⟨e3, he3⟩ : ∃ e3 : Int, (if (!cv) = true then 9 else 0) = e3 := ⟨_, rfl⟩
  have H4 := Lib.hid (fun W => he3 ▸ when_any (!cv) 9 W)
  rw [he3]
  clear hk hw1 hg hb hv hvb he1 he2 hcv h hs hl1 hl2 he3
  have hcase : (clock < 0 ∧ (decide (clock < 0) || decide (2147483647 < clock)) = true) ∨ (¬ clock < 0 ∧ clock > 2147483647 ∧ (decide (clock < 0) || decide (2147483647 < clock)) = true) ∨ (¬ clock < 0 ∧ ¬ clock > 2147483647 ∧ (decide (clock < 0) || decide (2147483647 < clock)) = false) := by
    by_cases h1 : clock < 0
    · exact .inl ⟨h1, by simp [h1]⟩
    · by_cases h2 : clock > 2147483647
      · exact .inr (.inl ⟨h1, h2, by simp [show 2147483647 < clock from h2]⟩)
      · exact .inr (.inr ⟨h1, h2, by simp [h1, show ¬ 2147483647 < clock from h2]⟩)
  obtain ⟨bb, hbb⟩ : ∃ bb, (decide (clock < 0) || decide (2147483647 < clock)) = bb := ⟨_, rfl⟩
  rw [hbb] at hcase ⊢
  clear hbb
  obtain ⟨e4, he4⟩ : ∃ e4 : Int, (if bb = true then 6 else 0) = e4 := ⟨_, rfl⟩
  have H5 := Lib.hid (fun W => he4 ▸ when_any bb 6 W)
  rw [he4]
  clear he4
  go_enter Tryz.func27, Tryz.ntmps27
  go_upto_region 1 with (fail)
  rw [HW.out, HG.out]
  rcases hcase with ⟨c1, rfl⟩ | ⟨c1, c2, rfl⟩ | ⟨c1, c2, rfl⟩
  all_goals
    refine wp_region_class_tail (C := fun w' => Kept (fun _ => False) w1 w') 22 (by kernel_rfl) (by kernel_rfl) (Kept.refl _ _).drew ?_
    simp only [List.take_succ_cons, List.take_zero, List.drop_succ_cons, List.drop_zero]
    iterate 22
      first | go_big_quiet_skip | (go_big_quiet_want; first | (go_big_quiet_op; go_big_quiet_on) | (apply Exists.intro; refine ⟨fun w' hS => ?_, ?_⟩; (have d0 := hS.cellF z0; have d1 := hS.cellF z1; have d2 := hS.cellF z2; go_simp; first | rfl | exact ⟨rfl, rfl⟩ | ((with_reducible refine (H4.out _).mono ?_); rintro e w2 ⟨rfl, rfl⟩; exact ⟨rfl, hS⟩) | ((with_reducible refine (H5.out _).mono ?_); rintro e w2 ⟨rfl, rfl⟩; exact ⟨rfl, hS⟩) | ((with_reducible refine (H1.out _ hS).mono ?_); unfold IntPost; rintro e w2 ⟨rfl, hk⟩; exact ⟨rfl, hS.trans hk fun _ _ e => e⟩) | ((with_reducible refine (H2.out _ hS).mono ?_); unfold IntPost; rintro e w2 ⟨rfl, hk⟩; exact ⟨rfl, hS.trans hk fun _ _ e => e⟩) | ((with_reducible refine (H3.out _ hS).mono ?_); unfold BoolPost; rintro e w2 ⟨rfl, hk⟩; exact ⟨rfl, hS.trans hk fun _ _ e => e⟩)); (try simp only [Act.put, List.setIfInBounds_toArray, List.set_cons_zero, List.set_cons_succ]); go_big_quiet_on))
    refine wpQuiet_nil ?_
    intro w3 hS
    have HS := Lib.hid hS
    clear hS z0 z1 z2
    go_wp2_with (fail)
    refine (first_any (some ⟨w3.heap.size, 0, none⟩) [e1, e2, e3, e4] 4 _ (CellsAt.of_box (Box.new w3 _ _) rfl) (by simp)).mono ?_
    rintro r w4 ⟨rfl, rfl⟩
    go_wp2_with (fail)
    go_ret
    exact ⟨rfl, (HK.out.trans HS.out fun _ _ e => e).alloc _⟩
end Go.Proofs.YtnajbkccaclkcaaGreat

namespace Go.Proofs.YtnajbkccaclkcaaGreat
open Go Go.RowKit

set_option maxRecDepth 100000 in
set_option maxHeartbeats 1600000 in
theorem IsID_any (i : Idt) (w : World) : Calls Tryz.prog 111 #[idV i] w (BoolPost w (okId i)) := by
  obtain ⟨t, s⟩ := i
  have hk : Kept (fun _ => False) w (w.alloc (.cells #[.int .i64 t, .int .i64 s] 61)) := (Kept.refl _ _).alloc _
  have HK := Lib.hid hk
  have x0 : (w.alloc (.cells #[.int .i64 t, .int .i64 s] 61)).cell? ⟨w.heap.size, 0, none⟩ = some (.int .i64 t) := (Box.new w 61 #[.int .i64 t, .int .i64 s]).cell 0
  have x1 : (w.alloc (.cells #[.int .i64 t, .int .i64 s] 61)).cell? ⟨w.heap.size, 1, none⟩ = some (.int .i64 s) := (Box.new w 61 #[.int .i64 t, .int .i64 s]).cell 1
  clear hk
  unfold idV okId
  by_cases h1 : 1 ≤ t
  · by_cases h2 : t ≤ 2147483647
    · by_cases h3 : 1 ≤ s
      · by_cases h4 : s ≤ 16
        · have hd : decide (1 ≤ t ∧ t ≤ 2147483647 ∧ 1 ≤ s ∧ s ≤ 16) = true := by simp [h1, h2, h3, h4]
          rw [hd]
          clear hd
          go_enter Tryz.func111, Tryz.ntmps111
          go_wp2
          go_ret
          exact ⟨rfl, HK.out⟩
        · have hd : decide (1 ≤ t ∧ t ≤ 2147483647 ∧ 1 ≤ s ∧ s ≤ 16) = false := by simp [h4]
          have h4' : 16 < s := by omega
          rw [hd]
          clear hd
          go_enter Tryz.func111, Tryz.ntmps111
          go_wp2
          go_ret
          exact ⟨rfl, HK.out⟩
      · have hd : decide (1 ≤ t ∧ t ≤ 2147483647 ∧ 1 ≤ s ∧ s ≤ 16) = false := by simp [h3]
        have h3' : s < 1 := by omega
        rw [hd]
        clear hd
        go_enter Tryz.func111, Tryz.ntmps111
        go_wp2
        go_ret
        exact ⟨rfl, HK.out⟩
    · have hd : decide (1 ≤ t ∧ t ≤ 2147483647 ∧ 1 ≤ s ∧ s ≤ 16) = false := by simp [h2]
      have h2' : 2147483647 < t := by omega
      rw [hd]
      clear hd
      go_enter Tryz.func111, Tryz.ntmps111
      go_wp2
      go_ret
      exact ⟨rfl, HK.out⟩
  · have hd : decide (1 ≤ t ∧ t ≤ 2147483647 ∧ 1 ≤ s ∧ s ≤ 16) = false := by simp [h1]
    have h1' : t < 1 := by omega
    rw [hd]
    clear hd
    go_enter Tryz.func111, Tryz.ntmps111
    go_wp2
    go_ret
    exact ⟨rfl, HK.out⟩

set_option maxRecDepth 100000 in
set_option maxHeartbeats 1600000 in
theorem RAfter_any (i : Idt) (n : Int) (w : World) (hn : inI n) : Calls Tryz.prog 110 #[idV i, .int .i64 n] w (IdPost w (afterI i n)) := by
  obtain ⟨lo, hi⟩ := hn
  have hk1 : Kept (fun _ => False) w (w.alloc (.cells #[.int .i64 i.time, .int .i64 i.site] 61)) := (Kept.refl _ _).alloc _
  have HK2 := Lib.hid (hk1.trans ((Kept.refl (fun _ => False) _).alloc (.cells #[.int .i64 0, .int .i64 0] 61)) fun _ _ e => e)
  have HB1 := Lib.hid ((Box.new w 61 #[.int .i64 i.time, .int .i64 i.site]).alloc (.cells #[.int .i64 0, .int .i64 0] 61))
  have HB2 := Lib.hid ((Box.new (w.alloc (.cells #[.int .i64 i.time, .int .i64 i.site] 61)) 61 #[.int .i64 0, .int .i64 0]).at_eq (show _ = w.heap.size + 1 by simp))
  clear hk1
  obtain ⟨x, hx⟩ : ∃ x, afterI i n = x := ⟨_, rfl⟩
  obtain ⟨b, hb⟩ : ∃ b, okId i = b := ⟨_, rfl⟩
  have HX := Lib.hid hx
  have HB := Lib.hid hb
  rw [hx]
  have hcase : (b = false ∧ x = noId) ∨ (b = true ∧ n < 0 ∧ x = noId) ∨ (b = true ∧ 0 ≤ n ∧ 2147483647 - i.time < n ∧ x = noId) ∨ (b = true ∧ 0 ≤ n ∧ n ≤ 2147483647 - i.time ∧ x = ⟨i.time + n, i.site⟩) := by
    rw [← hx]
    unfold afterI
    cases b with
    | false => exact .inl ⟨rfl, if_neg fun e => by rw [hb] at e; cases e.1⟩
    | true =>
      by_cases h1 : n < 0
      · exact .inr (.inl ⟨rfl, h1, if_neg fun e => by omega⟩)
      · by_cases h2 : 2147483647 - i.time < n
        · exact .inr (.inr (.inl ⟨rfl, by omega, h2, if_neg fun e => by omega⟩))
        · exact .inr (.inr (.inr ⟨rfl, by omega, by omega, if_pos ⟨hb, by omega, by omega⟩⟩))
  have hbd : b = true → 1 ≤ i.time ∧ i.time ≤ 2147483647 := fun e => by
    rw [e, okId_iff] at hb
    exact ⟨hb.1, hb.2.1⟩
  obtain ⟨t, s⟩ := i
  clear hx hb
  unfold idV at *
  simp only at HB1 HB2 HK2 hcase hbd ⊢
  rcases hcase with ⟨rfl, rfl⟩ | ⟨rfl, h1, rfl⟩ | ⟨rfl, h1, h2, rfl⟩ | ⟨rfl, h1, h2, rfl⟩
  · clear hbd
    go_enter Tryz.func110, Tryz.ntmps110
    go_wp2_with (fail)
    refine (IsID_any ⟨t, s⟩ _).mono ?_
    unfold BoolPost
    rw [HB.out]
    rintro e w3 ⟨rfl, hk⟩
    have HB1' := Lib.hid (HB1.out.kept hk id)
    have HB2' := Lib.hid (HB2.out.kept hk id)
    have HK3 := Lib.hid (HK2.out.trans hk fun _ _ e => e)
    have x0 : w3.cell? ⟨w.heap.size, 0, none⟩ = some (.int .i64 t) := HB1'.out.cell 0
    have y0 : w3.cell? ⟨w.heap.size + 1, 0, none⟩ = some (.int .i64 0) := HB2'.out.cell 0
    have y1 : w3.cell? ⟨w.heap.size + 1, 1, none⟩ = some (.int .i64 0) := HB2'.out.cell 1
    have g0 : w3.frozen? ⟨w.heap.size + 1, 0, none⟩ = false := HB2'.out.frozen 0
    have g1 : w3.frozen? ⟨w.heap.size + 1, 1, none⟩ = false := HB2'.out.frozen 1
    clear hk
    go_wp2
    exact ret_id (i := noId) (g := w.heap.size + 1) (t := 4) rfl rfl rfl ((HB2'.out.set 0 _).set 1 _) rfl (HK3.out.trans (((Kept.refl (fun k => k = w.heap.size + 1) _).at 0 _ (.inl rfl)).at 1 _ (.inl rfl)) fun k hlt e => by omega)
  iterate 2
    · obtain ⟨hb1, hb2⟩ := hbd rfl
      clear hbd
      go_enter Tryz.func110, Tryz.ntmps110
      go_wp2_with (fail)
      refine (IsID_any ⟨t, s⟩ _).mono ?_
      unfold BoolPost
      rw [HB.out]
      rintro e w3 ⟨rfl, hk⟩
      have HB1' := Lib.hid (HB1.out.kept hk id)
      have HB2' := Lib.hid (HB2.out.kept hk id)
      have HK3 := Lib.hid (HK2.out.trans hk fun _ _ e => e)
      have x0 : w3.cell? ⟨w.heap.size, 0, none⟩ = some (.int .i64 t) := HB1'.out.cell 0
      have y0 : w3.cell? ⟨w.heap.size + 1, 0, none⟩ = some (.int .i64 0) := HB2'.out.cell 0
      have y1 : w3.cell? ⟨w.heap.size + 1, 1, none⟩ = some (.int .i64 0) := HB2'.out.cell 1
      have g0 : w3.frozen? ⟨w.heap.size + 1, 0, none⟩ = false := HB2'.out.frozen 0
      have g1 : w3.frozen? ⟨w.heap.size + 1, 1, none⟩ = false := HB2'.out.frozen 1
      clear hk
      go_wp2
      exact ret_id (i := noId) (g := w.heap.size + 1) (t := 4) rfl rfl rfl ((HB2'.out.set 0 _).set 1 _) rfl (HK3.out.trans (((Kept.refl (fun k => k = w.heap.size + 1) _).at 0 _ (.inl rfl)).at 1 _ (.inl rfl)) fun k hlt e => by omega)
  · obtain ⟨hb1, hb2⟩ := hbd rfl
    clear hbd
    go_enter Tryz.func110, Tryz.ntmps110
    go_wp2_with (fail)
    refine (IsID_any ⟨t, s⟩ _).mono ?_
    unfold BoolPost
    rw [HB.out]
    rintro e w3 ⟨rfl, hk⟩
    have HB1' := Lib.hid (HB1.out.kept hk id)
    have HB2' := Lib.hid (HB2.out.kept hk id)
    have HK3 := Lib.hid (HK2.out.trans hk fun _ _ e => e)
    have x0 : w3.cell? ⟨w.heap.size, 0, none⟩ = some (.int .i64 t) := HB1'.out.cell 0
    have x1 : w3.cell? ⟨w.heap.size, 1, none⟩ = some (.int .i64 s) := HB1'.out.cell 1
    have f0 : w3.frozen? ⟨w.heap.size, 0, none⟩ = false := HB1'.out.frozen 0
    have y0 : w3.cell? ⟨w.heap.size + 1, 0, none⟩ = some (.int .i64 0) := HB2'.out.cell 0
    have y1 : w3.cell? ⟨w.heap.size + 1, 1, none⟩ = some (.int .i64 0) := HB2'.out.cell 1
    have g0 : w3.frozen? ⟨w.heap.size + 1, 0, none⟩ = false := HB2'.out.frozen 0
    have g1 : w3.frozen? ⟨w.heap.size + 1, 1, none⟩ = false := HB2'.out.frozen 1
    clear hk
    go_wp2
    exact ret_id (i := ⟨t + n, s⟩) (g := w.heap.size + 1) (t := 4) rfl rfl rfl ((HB2'.out.set 0 _).set 1 _) rfl (HK3.out.trans (((Kept.refl (fun k => k = w.heap.size + 1) _).at 0 _ (.inl rfl)).at 1 _ (.inl rfl)) fun k hlt e => by omega)


def rcmpId (a b : Idt) : Int := if a.time = b.time ∧ a.site = b.site then 0 else if ltId a b then -1 else 1
theorem rcmpId_ge (a b : Idt) : 0 ≤ rcmpId a b ↔ ¬ ltId a b := by
  unfold rcmpId
  split
  · unfold ltId; omega
  · split <;> rename_i h <;> simp [h]
set_option maxRecDepth 100000 in
set_option maxHeartbeats 1600000 in
theorem RCompare_any (a b : Idt) (w : World) : Calls Tryz.prog 112 #[idV a, idV b] w (IntPost w (rcmpId a b)) := by
  have HK := Lib.hid (((Kept.refl (fun _ => False) w).alloc (.cells #[.int .i64 a.time, .int .i64 a.site] 61)).alloc (.cells #[.int .i64 b.time, .int .i64 b.site] 61))
  have hb1 := (Box.new w 61 #[.int .i64 a.time, .int .i64 a.site]).alloc (.cells #[.int .i64 b.time, .int .i64 b.site] 61)
  have hb2 := (Box.new (w.alloc (.cells #[.int .i64 a.time, .int .i64 a.site] 61)) 61 #[.int .i64 b.time, .int .i64 b.site]).at_eq (show _ = w.heap.size + 1 by simp)
  obtain ⟨x, hx⟩ : ∃ x, rcmpId a b = x := ⟨_, rfl⟩
  have hcase : (a.time = b.time ∧ a.site = b.site ∧ x = 0) ∨ (a.time < b.time ∧ x = -1) ∨ (a.time = b.time ∧ a.site < b.site ∧ x = -1) ∨ (b.time < a.time ∧ x = 1) ∨ (a.time = b.time ∧ b.site < a.site ∧ x = 1) := by
    rw [← hx]
    unfold rcmpId
    by_cases h1 : a.time = b.time ∧ a.site = b.site
    · exact .inl ⟨h1.1, h1.2, if_pos h1⟩
    · rw [if_neg h1]
      by_cases h2 : ltId a b
      · rw [if_pos h2]
        unfold ltId at h2
        omega
      · rw [if_neg h2]
        unfold ltId at h2
        omega
  rw [hx]
  clear hx
  obtain ⟨t, s⟩ := a
  obtain ⟨t', s'⟩ := b
  unfold idV
  simp only at HK hb1 hb2 hcase ⊢
  have x0 := hb1.cell 0
  have x1 := hb1.cell 1
  have y0 := hb2.cell 0
  have y1 := hb2.cell 1
  clear hb1 hb2
  have hx := fun W => eql_id t s t' s' W
  rcases hcase with ⟨h1, h2, rfl⟩ | ⟨h1, rfl⟩ | ⟨h1, h2, rfl⟩ | ⟨h1, rfl⟩ | ⟨h1, h2, rfl⟩
  · rw [decide_eq_true ⟨h1, h2⟩] at hx
    clear h1 h2
    go_enter Tryz.func112, Tryz.ntmps112
    go_wp2
    go_ret
    exact ⟨rfl, HK.out⟩
  · rw [decide_eq_false (by omega)] at hx
    go_enter Tryz.func112, Tryz.ntmps112
    go_wp2
    go_ret
    exact ⟨rfl, HK.out⟩
  · subst h1
    rw [decide_eq_false (by omega)] at hx
    go_enter Tryz.func112, Tryz.ntmps112
    go_wp2
    go_ret
    exact ⟨rfl, HK.out⟩
  · rw [decide_eq_false (by omega)] at hx
    go_enter Tryz.func112, Tryz.ntmps112
    go_wp2
    go_ret
    exact ⟨rfl, HK.out⟩
  · subst h1
    rw [decide_eq_false (by omega)] at hx
    go_enter Tryz.func112, Tryz.ntmps112
    go_wp2
    go_ret
    exact ⟨rfl, HK.out⟩

/-- All of these may be runs. -/
def OkAll (p : List Rn) : Prop := ∀ q ∈ p, okRn q = true
structure RChkAt (w : World) (A : Option Addr) (l : List Rn) (wr : World) : Prop where
  r : RunsAt wr A l
  k : Kept (fun _ => False) w wr
theorem RChkAt.fresh {w wr w' : World} {A : Option Addr} {l : List Rn} (h : RChkAt w A l wr) (hk : Kept (fun _ => False) wr w') : RChkAt w A l w' := ⟨h.r.fresh hk, h.k.trans hk fun _ _ e => e⟩
theorem meets_take (l : List Rn) (r : Rn) {j : Nat} (h : j < l.length) : meets (l.take (j + 1)) r = (meets (l.take j) r || decide (l[j].id.site = r.id.site ∧ r.id.time ≤ l[j].id.time + l[j].count)) := by
  unfold meets
  rw [List.take_succ_eq_append_getElem h, List.any_append]
  simp

set_option maxRecDepth 100000 in
set_option maxHeartbeats 3200000 in
theorem RRCheck_any (A : Option Addr) (l : List Rn) (c : Nat) (w : World) (hl : RunsAt w A l) (hc : ∀ r ∈ l, inI r.count) (hlen : l.length ≤ 1000000) :
    Calls Tryz.prog 103 #[.slice A l.length c] w (IntPost w (chkR [] l)) := by
  obtain ⟨x, hx⟩ : ∃ x, chkR [] l = x := ⟨_, rfl⟩
  have HX := Lib.hid (show chkR (l.take 0) (l.drop 0) = x from hx)
  have HL := Lib.hid hl
  have HC := Lib.hid hc
  rw [hx]
  clear hx hl hc
  go_enter Tryz.func103, Tryz.ntmps103
  go_wp2_with (fail)
  go_loopw [3] (fun i wr => ∃ (k : Nat), i = .int .i64 k ∧ k ≤ l.length ∧ chkR (l.take k) (l.drop k) = x ∧ OkAll (l.take k) ∧ RChkAt w A l wr) (fun i _ => l.length - (intOf i).toNat)
  case atStart => exact ⟨0, rfl, by omega, HX.out, fun q hq => absurd hq (by simp), HL.out, Kept.refl _ _⟩
  case round =>
    obtain ⟨k, rfl, hk, hchk, hoa, hz⟩ := hrel
    have HZ := Lib.hid hz
    have HOA := Lib.hid hoa
    clear HX hz hoa
    by_cases hlt : k < l.length
    · rw [chkR_step l hlt] at hchk
      obtain ⟨ad, rfl, x0, x1, x2⟩ := HZ.out.r k hlt
      have hci := HC.out l[k] (List.getElem_mem hlt)
      obtain ⟨r, hr⟩ : ∃ r, l[k] = r := ⟨_, rfl⟩
      rw [hr] at hchk x0 x1 x2 hci
      have HR := Lib.hid hr
      have HCH := Lib.hid hchk
      clear hr hchk
      have HST := Lib.hid (show stepR (l.take k) r = if okRn r = false then 1 else if notUp (l.take k) r = true then 9 else if meets (l.take k) r = true then 6 else 0 from rfl)
      have HOD := Lib.hid (show okRn r = (decide (1 ≤ r.count) && okId r.id && decide (r.count - 1 ≤ 2147483647 - r.id.time)) from rfl)
      obtain ⟨⟨t, s⟩, n⟩ := r
      obtain ⟨lo, hi⟩ := hci
      simp only at x0 x1 x2 lo hi
      have HB1 := Lib.hid (Box.new wr 68 #[.int .i64 t, .int .i64 s, .int .i64 n])
      have HZ1 := Lib.hid (HZ.out.fresh ((Kept.refl _ _).alloc (.cells #[.int .i64 t, .int .i64 s, .int .i64 n] 68)))
      go_upto_region 5 with (fail)
      generalize wr.alloc (.cells #[.int .i64 t, .int .i64 s, .int .i64 n] 68) = w1 at HB1 HZ1 ⊢
      clear HZ x0 x1 x2
      generalize wr.heap.size = g1 at HB1 ⊢
      have y0 : w1.cell? ⟨g1, 0, none⟩ = some (.int .i64 t) := HB1.out.cell 0
      have y1 : w1.cell? ⟨g1, 1, none⟩ = some (.int .i64 s) := HB1.out.cell 1
      have y2 : w1.cell? ⟨g1, 2, none⟩ = some (.int .i64 n) := HB1.out.cell 2
      go_cut [34] (fun v wx => v = .bool (!okRn ⟨⟨t, s⟩, n⟩) ∧ RChkAt w (some ad) l wx ∧ Box wx g1 68 #[.int .i64 t, .int .i64 s, .int .i64 n])
      case first =>
        by_cases h1 : n < 1
        · have hok : okRn ⟨⟨t, s⟩, n⟩ = false := by
            rw [HOD.out]
            simp only
            rw [decide_eq_false (show ¬ 1 ≤ n by omega)]
            rfl
          have HOK := Lib.hid hok
          clear hok
          go_wp2_with (fail)
          go_meet
          case rel => exact ⟨by rw [HOK.out]; rfl, HZ1.out, HB1.out⟩
        · have h1' : 1 ≤ n := by omega
          have HI := Lib.hid (IsID_any ⟨t, s⟩ w1)
          obtain ⟨b, hb⟩ : ∃ b, okId ⟨t, s⟩ = b := ⟨_, rfl⟩
          have HB := Lib.hid hb
          have hbt : b = true → 1 ≤ t ∧ t ≤ 2147483647 := fun e => by
            rw [e, okId_iff] at hb
            exact ⟨hb.1, hb.2.1⟩
          have HBT := Lib.hid hbt
          clear hb hbt h1
          go_wp2_with (fail)
          refine HI.out.mono ?_
          unfold BoolPost
          rw [HB.out]
          rintro e w2 ⟨rfl, hk2⟩
          have HZ2 := Lib.hid (HZ1.out.fresh hk2)
          have HB2 := Lib.hid (HB1.out.kept hk2 id)
          clear hk2 y0 y1 y2 HZ1 HB1 HI
          have y0 : w2.cell? ⟨g1, 0, none⟩ = some (.int .i64 t) := HB2.out.cell 0
          have y2 : w2.cell? ⟨g1, 2, none⟩ = some (.int .i64 n) := HB2.out.cell 2
          cases b with
          | false =>
            have HOK := Lib.hid (show okRn ⟨⟨t, s⟩, n⟩ = false by rw [HOD.out, HB.out]; simp)
            go_wp2_with (fail)
            go_meet
            case rel => exact ⟨congrArg Value.bool (by rw [HOK.out]; (first | rfl | (simp; omega))), HZ2.out, HB2.out⟩
          | true =>
            obtain ⟨hb1, hb2⟩ := HBT.out rfl
            by_cases h3 : n - 1 ≤ 2147483647 - t
            · have HOK := Lib.hid (show okRn ⟨⟨t, s⟩, n⟩ = true by rw [HOD.out, HB.out, decide_eq_true h1', decide_eq_true h3]; rfl)
              go_wp2_with (fail)
              go_meet
              case rel => exact ⟨congrArg Value.bool (by rw [HOK.out]; (first | rfl | (simp; omega))), HZ2.out, HB2.out⟩
            · have h3' : 2147483647 - t < n - 1 := by omega
              have HOK := Lib.hid (show okRn ⟨⟨t, s⟩, n⟩ = false by rw [HOD.out, HB.out, decide_eq_true h1', decide_eq_false h3]; rfl)
              clear h3
              go_wp2_with (fail)
              go_meet
              case rel => exact ⟨congrArg Value.bool (by rw [HOK.out]; (first | rfl | (simp; omega))), HZ2.out, HB2.out⟩
      case rest =>
        obtain ⟨rfl, hz2, hb2⟩ := hcut
        have HZ2 := Lib.hid hz2
        have HB2 := Lib.hid hb2
        clear hz2 hb2 y0 y1 y2 HZ1 HB1
        cases hok : okRn ⟨⟨t, s⟩, n⟩ with
        | false =>
          have h2 := HCH.out
          rw [HST.out, hok] at h2
          have HF := Lib.hid (show (1 : Int) = x from h2)
          clear hok h2
          go_wp2_with (fail)
          go_ret
          exact ⟨by rw [← HF.out]; rfl, HZ2.out.k⟩
        | true =>
          have HOK := Lib.hid hok
          have hob := hok
          rw [HOD.out] at hob
          simp only [Bool.and_eq_true, decide_eq_true_eq, okId_iff] at hob
          obtain ⟨⟨hn1, ht1, ht2, hs1, hs2⟩, hn2⟩ := hob
          clear hok HOD lo hi
          go_wp2_with (fail)
          generalize wc = w3 at HZ2 HB2 ⊢
          have y0 : w3.cell? ⟨g1, 0, none⟩ = some (.int .i64 t) := HB2.out.cell 0
          have y1 : w3.cell? ⟨g1, 1, none⟩ = some (.int .i64 s) := HB2.out.cell 1
          go_cut [48] (fun v wx => v = .bool (notUp (l.take k) ⟨⟨t, s⟩, n⟩) ∧ RChkAt w (some ad) l wx ∧ Box wx g1 68 #[.int .i64 t, .int .i64 s, .int .i64 n])
          case first =>
            rcases Nat.eq_zero_or_pos k with hk0 | hk0
            · subst hk0
              have hg : decide ((0 : Nat) < 0) = false := rfl
              go_quiet (fail)
              go_wp2
              go_meet
              case rel => exact ⟨rfl, HZ2.out.fresh (Kept.drewN_eq nq), HB2.out.drewN nq⟩
            · obtain ⟨j, rfl⟩ : ∃ j, k = j + 1 := ⟨k - 1, by omega⟩
              have hjl : j < l.length := by omega
              obtain ⟨ad', e, p0, p1, _⟩ := HZ2.out.r j hjl
              injection e with e
              subst e
              have HNU := Lib.hid (notUp_succ l hlt ⟨⟨t, s⟩, n⟩)
              obtain ⟨q, hq⟩ : ∃ q, l[j] = q := ⟨_, rfl⟩
              rw [hq] at p0 p1 HNU
              obtain ⟨⟨qt, qs⟩, qn⟩ := q
              simp only at p0 p1
              clear hq
              have hwj : IntKind.i64.wrap (j : Int) = (j : Int) := IntWalk.i64_in _ ⟨by omega, by omega⟩
              have hj0 : (0 : Int) ≤ (j : Int) := by omega
              have hj1 : (j : Int) < (l.length : Int) := by omega
              go_still_tail 11, (by kernel_rfl)
              change wpList _ _ _ _ _ w3.drew
              have HZ4 := Lib.hid (HZ2.out.fresh (Kept.refl (fun _ => False) w3).drew)
              have HB4 := Lib.hid HB2.out.drew
              clear HZ2 HB2 y0 y1 p0 p1
              generalize w3.drew = w4 at HZ4 HB4 ⊢
              go_wp2_with (fail)
              refine (RCompare_any ⟨qt, qs⟩ ⟨t, s⟩ _).mono ?_
              obtain ⟨y, hy⟩ : ∃ y, rcmpId ⟨qt, qs⟩ ⟨t, s⟩ = y := ⟨_, rfl⟩
              have hyl := rcmpId_ge ⟨qt, qs⟩ ⟨t, s⟩
              unfold IntPost
              rw [hy] at hyl ⊢
              have HYL := Lib.hid hyl
              clear hy hyl
              rintro e w5 ⟨rfl, hk5⟩
              have HZ5 := Lib.hid (HZ4.out.fresh hk5)
              have HB5 := Lib.hid (HB4.out.kept hk5 id)
              have HN2 := Lib.hid (show notUp (l.take (j + 1)) ⟨⟨t, s⟩, n⟩ = decide (0 ≤ y) by
                rw [HNU.out]
                by_cases h : ltId ⟨qt, qs⟩ ⟨t, s⟩
                · have h1 : ¬ 0 ≤ y := fun e => (HYL.out.1 e) h
                  simp [h, h1]
                · have h1 : 0 ≤ y := HYL.out.2 h
                  simp [h, h1])
              clear hk5 HZ4 HB4 hwj hj0 hj1
              go_wp2
              go_meet
              case rel => exact ⟨by rw [HN2.out], HZ5.out, HB5.out⟩
          case rest =>
            obtain ⟨rfl, hz3, hb3⟩ := hcut
            have HZ3 := Lib.hid hz3
            have HB3 := Lib.hid hb3
            clear hz3 hb3 y0 y1 HZ2 HB2
            cases hnu : notUp (l.take k) ⟨⟨t, s⟩, n⟩ with
            | true =>
              have h2 := HCH.out
              rw [HST.out, HOK.out, hnu] at h2
              have HF := Lib.hid (show (9 : Int) = x from h2)
              clear hnu h2
              go_wp2_with (fail)
              go_ret
              exact ⟨by rw [← HF.out]; rfl, HZ3.out.k⟩
            | false =>
              have HNU := Lib.hid hnu
              clear hnu
              go_wp2_with (fail)
              generalize wc = w6 at HZ3 HB3 ⊢
              go_loopw [5] (fun i wr => ∃ (j : Nat), i = .int .i64 j ∧ j ≤ k ∧ meets (l.take j) ⟨⟨t, s⟩, n⟩ = false ∧ RChkAt w (some ad) l wr ∧ Box wr g1 68 #[.int .i64 t, .int .i64 s, .int .i64 n]) (fun i _ => k - (intOf i).toNat)
              case atStart => exact ⟨0, rfl, by omega, rfl, HZ3.out, HB3.out⟩
              case round =>
                obtain ⟨j, rfl, hj, hme, hz, hb⟩ := hrel
                have HZ4 := Lib.hid hz
                have HB4 := Lib.hid hb
                have HME := Lib.hid hme
                clear hz hb hme HZ3 HB3
                by_cases hjk : j < k
                · have hjl : j < l.length := by omega
                  obtain ⟨ad', e, p0, p1, p2⟩ := HZ4.out.r j hjl
                  injection e with e
                  subst e
                  have HMT := Lib.hid (meets_take l ⟨⟨t, s⟩, n⟩ hjl)
                  have hoj := HOA.out l[j] (List.mem_of_getElem? (show (l.take k)[j]? = some l[j] by rw [List.getElem?_take, if_pos hjk, List.getElem?_eq_getElem hjl]))
                  obtain ⟨q, hq⟩ : ∃ q, l[j] = q := ⟨_, rfl⟩
                  rw [hq] at p0 p1 p2 hoj HMT
                  obtain ⟨⟨qt, qs⟩, qn⟩ := q
                  unfold okRn at hoj
                  simp only [Bool.and_eq_true, decide_eq_true_eq, okId_iff] at hoj
                  simp only at p0 p1 p2
                  obtain ⟨⟨hqn, hq1, hq2, hq3, hq4⟩, hq5⟩ := hoj
                  rw [HME.out] at HMT
                  clear hq
                  have y0 : wr.cell? ⟨g1, 0, none⟩ = some (.int .i64 t) := HB4.out.cell 0
                  have y1 : wr.cell? ⟨g1, 1, none⟩ = some (.int .i64 s) := HB4.out.cell 1
                  by_cases hqs : qs = s
                  · have hd : decide (qs = s) = true := decide_eq_true hqs
                    have hd' : (qs == s) = true := by simp [hqs]
                    by_cases hqt : t ≤ qt + qn
                    · have hme : meets (l.take (j + 1)) ⟨⟨t, s⟩, n⟩ = true := by rw [HMT.out]; simp [hqs, hqt]
                      have hmk : meets (l.take k) ⟨⟨t, s⟩, n⟩ = true := by
                        rw [meets_iff] at hme ⊢
                        obtain ⟨q, hq, h⟩ := hme
                        exact ⟨q, List.take_subset_take_left l (by omega) hq, h⟩
                      have h2 := HCH.out
                      rw [HST.out, HOK.out, HNU.out, hmk] at h2
                      have HF := Lib.hid (show (6 : Int) = x from h2)
                      have HQ := Lib.hid hqs
                      clear h2 hme hmk hqs
                      go_wp2_with (fail)
                      go_quiet (fail)
                      go_wp2
                      go_ret
                      exact ⟨by rw [← HF.out]; rfl, HZ4.out.k.trans (Kept.drewN_eq nq) fun _ _ e => e⟩
                    · have hme : meets (l.take (j + 1)) ⟨⟨t, s⟩, n⟩ = false := by rw [HMT.out]; simp [hqt]
                      have HME1 := Lib.hid hme
                      have hqt' : qt + qn < t := by omega
                      have HQ := Lib.hid hqs
                      clear hme hqt hqs
                      go_wp2_with (fail)
                      go_quiet (fail)
                      go_wp2
                      go_roundw
                      case rel => exact ⟨j + 1, by go_num, by omega, HME1.out, HZ4.out.fresh (Kept.drewN_eq nq), HB4.out.drewN nq⟩
                      case measure => simp [intOf]; omega
                  · have hd : decide (qs = s) = false := decide_eq_false hqs
                    have hd' : (qs == s) = false := by simp [hqs]
                    have hme : meets (l.take (j + 1)) ⟨⟨t, s⟩, n⟩ = false := by rw [HMT.out]; simp [hqs]
                    have HME1 := Lib.hid hme
                    clear hme
                    go_wp2_with (fail)
                    go_quiet (fail)
                    go_wp2
                    go_roundw
                    case rel => exact ⟨j + 1, by go_num, by omega, HME1.out, HZ4.out.fresh (Kept.drewN_eq nq), HB4.out.drewN nq⟩
                    case measure => simp [intOf]; omega
                · obtain rfl : j = k := by omega
                  have h2 := HCH.out
                  rw [HST.out, HOK.out, HNU.out, HME.out] at h2
                  have HF := Lib.hid h2
                  clear h2
                  go_wp2_with (fail)
                  go_roundw
                  case rel => exact ⟨j + 1, by go_num, by omega, HF.out, fun q hq => by
                    rw [List.take_succ_eq_append_getElem hlt, List.mem_append] at hq
                    rcases hq with hq | hq
                    · exact HOA.out q hq
                    · obtain rfl : q = l[j] := by simpa using hq
                      rw [HR.out]
                      exact HOK.out, HZ4.out⟩
                  case measure => simp [intOf]; omega
    · obtain rfl : k = l.length := by omega
      rw [chkR_end] at hchk
      have HF := Lib.hid hchk
      clear hchk
      go_wp2_with (fail)
      go_ret
      exact ⟨by rw [← HF.out]; rfl, HZ.out.k⟩
end Go.Proofs.YtnajbkccaclkcaaGreat
