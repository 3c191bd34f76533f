/- The walk of the law's step: one call on a Front and on the reference's. Conditions: both lie in memory of their own, the step's lists elsewhere. -/
import Derived.Test.YthlejmpeigfdgaaFNot
namespace Go.Proofs.Ythlejmpeigfdgaa
open Go Go.RowKit
theorem dots_store (l : List Dt) (k : Nat) (hk : k < l.length) (d : Dt) : dots (l.set k d) = ((dots l).set (k * 2) (.int .i64 d.site)).set (k * 2 + 1) (.int .i64 d.seq) := by
  induction l generalizing k with
  | nil => simp at hk
  | cons x l ih =>
    cases k with
    | zero => rfl
    | succ k =>
      have e2 : (k + 1) * 2 = k * 2 + 2 := by omega
      have := ih k (by simpa using hk)
      rw [e2]
      simpa [dots] using this
theorem dots_turn {w : World} {base n c : Nat} {A : Option Addr} {l : List Dt} (h : w.ownsRow base 56 2 (.slice A n c) n (dots l)) {k : Nat} (hk : k < n) (d : Dt) :
    ∃ g a b, A = some ⟨g, 0, none⟩ ∧ (Value.slice A n c).ownBlock = some g ∧ w.cell? ⟨g, k * 2, none⟩ = some a ∧ w.cell? ⟨g, k * 2 + 1, none⟩ = some b ∧ (∀ j, w.frozen? ⟨g, j, none⟩ = false) ∧
      ((w.setCell ⟨g, k * 2, none⟩ (.int .i64 d.site)).setCell ⟨g, k * 2 + 1, none⟩ (.int .i64 d.seq)).ownsRow base 56 2 (.slice A n c) n (dots (l.set k d)) ∧
      Kept (fun b => b = g) w ((w.setCell ⟨g, k * 2, none⟩ (.int .i64 d.site)).setCell ⟨g, k * 2 + 1, none⟩ (.int .i64 d.seq)) := by
  have hn := h.1
  rw [dots_len] at hn
  have hl : k < l.length := by omega
  obtain ⟨g, hA, hb, hc, hf⟩ := own_cells h (by omega)
  obtain ⟨g0, g1⟩ := dots_get l k hl
  subst hA
  have h1 := World.ownsRow.stored h (k * 2) (.int .i64 d.site)
  have h2 := World.ownsRow.stored h1.1 (k * 2 + 1) (.int .i64 d.seq)
  rw [← dots_store _ k hl] at h2
  exact ⟨g, _, _, rfl, hb, hc _ _ g0, hc _ _ g1, hf, h2.1, Kept.at (g := g) (Kept.at (g := g) (Kept.refl (fun b => b = g) _) _ _ (.inl rfl)) _ _ (.inl rfl)⟩

def stepF (s : List Fp) (x : Stf) : List Fp := if x.kind = 1 then hear s x.site x.v else if x.kind = 2 then settle s x.v else s
theorem stepF_one {s : List Fp} {x : Stf} (h : x.kind = 1) : stepF s x = hear s x.site x.v := if_pos h
theorem stepF_two {s : List Fp} {x : Stf} (h : x.kind = 2) : stepF s x = settle s x.v := by unfold stepF; rw [if_neg (by omega), if_pos h]
theorem stepF_other {s : List Fp} {x : Stf} (h : ¬ (x.kind = 1 ∨ x.kind = 2)) : stepF s x = s := by unfold stepF; rw [if_neg (by omega), if_neg (by omega)]
theorem eltInts : Elt Try.prog 32 3 1 8 := .of Try.underlying32 info_int rfl (by decide) (by decide)
theorem Fob.widen {p : Nat} {s : List Fp} {N M : Nat} (hNM : N ≤ M) : ∀ G W, Fob p s N G W → Fob p s M G W := fun _ _ ⟨F, es, n, h0, h1, h2⟩ => ⟨F, es, n, by omega, h1, h2⟩
theorem IntsAt.cells {w : World} {A : Option Addr} {l : List Int} (h : IntsAt w A l) : ∀ j u, (l.map encZ)[j]? = some u → ∃ ad, A = some ad ∧ w.cell? (ad.add j) = some u := by
  intro j u hj
  have hlt : j < l.length := by simpa using (List.getElem?_eq_some_iff.1 hj).1
  obtain ⟨ad, rfl, x0⟩ := h j hlt
  refine ⟨ad, rfl, ?_⟩
  rw [x0, ← hj]
  simp [encZ, hlt]
theorem encs_one (l : List Int) : ∀ u ∈ l.map encZ, u.oneCell' = true := by
  intro u hu
  obtain ⟨x, _, rfl⟩ := List.mem_map.1 hu
  rfl
theorem Pair.fst_mono {A A' B : (Nat → Prop) → World → Prop} {G : Nat → Prop} {W : World} (h : Pair A B G W) (hA : ∀ G W, A G W → A' G W) : Pair A' B G W := by
  obtain ⟨Fa, Fb, h1, h2, h3, h4⟩ := h
  exact ⟨Fa, Fb, hA _ _ h1, h2, h3, h4⟩
/-- What has been written over, and what has not yet. -/
def over (k : Nat) (l : List Int) : List Int := List.replicate k 3 ++ l.drop k
theorem over_zero (l : List Int) : over 0 l = l := by simp [over]
theorem over_get {k : Nat} {l : List Int} (h : k < l.length) : (over k l)[k]? = some l[k] := by
  unfold over
  rw [List.getElem?_append_right (by simp), List.length_replicate, Nat.sub_self, List.getElem?_drop, Nat.add_zero, List.getElem?_eq_getElem h]
theorem over_len {k : Nat} {l : List Int} (h : k ≤ l.length) : (over k l).length = l.length := by simp [over]; omega
theorem over_set {k : Nat} {l : List Int} (h : k < l.length) : (over k l).set k 3 = over (k + 1) l := by
  unfold over
  rw [List.drop_eq_getElem_cons h, List.replicate_succ', List.append_assoc, List.set_append_right _ _ (by simp), List.length_replicate, Nat.sub_self, List.set_cons_zero]
  rfl
theorem DotsAt.nz {w : World} {A : Option Addr} {l : List Dt} {c : Nat} (h : DotsAt w A l) (hc : A = none → c = 0) : A = none → l.length = 0 ∧ c = 0 := by
  rintro rfl
  refine ⟨?_, hc rfl⟩
  rcases Nat.eq_zero_or_pos l.length with h0 | h0
  · exact h0
  · obtain ⟨ad, e, _⟩ := h 0 h0
    cases e
theorem IntsAt.nz {w : World} {A : Option Addr} {l : List Int} {c : Nat} (h : IntsAt w A l) (hc : A = none → c = 0) : A = none → l.length = 0 ∧ c = 0 := by
  rintro rfl
  refine ⟨?_, hc rfl⟩
  rcases Nat.eq_zero_or_pos l.length with h0 | h0
  · exact h0
  · obtain ⟨ad, e, _⟩ := h 0 h0
    cases e
theorem DotsAt.pre {w : World} {A : Option Addr} {l m : List Dt} (h : DotsAt w A (l ++ m)) : DotsAt w A l := fun k hk => by
  have := h k (by rw [List.length_append]; omega)
  rwa [List.getElem_append_left hk] at this
theorem IntsAt.pre {w : World} {A : Option Addr} {l m : List Int} (h : IntsAt w A (l ++ m)) : IntsAt w A l := fun k hk => by
  have := h k (by rw [List.length_append]; omega)
  rwa [List.getElem_append_left hk] at this
def mark77 : Dt := ⟨77, 77⟩
set_option maxRecDepth 100000 in
set_option maxHeartbeats 30000000 in
theorem Step14_any (p q N : Nat) (s : List Fp) (x : Stf) (G : Nat → Prop) (w : World) (h : Pair (Fob p s N) (Rfb q s) G w) (hG : ∀ k, w.heap.size ≤ k → G k) (hN : N < 800000) (hx : StfOk w x) (hvn : x.vA = none → x.vc = 0) (hmn : x.mA = none → x.mc = 0) (hbk : ∀ W, Kept G w W → DotsAt W x.vA x.v ∧ IntsAt W x.mA x.ms) :
    Calls Try.prog 13 #[.pointer (some ⟨p, 0, none⟩), .pointer (some ⟨q, 0, none⟩), .agg x.cs] w (fun r w' => r = .returned (.bool true) ∧ Pair (Fob p (stepF s x) (N + 17)) (Rfb q (stepF s x)) G w' ∧ Kept G w w') := by
  have hk0 : Kept (fun _ => False) w (w.alloc (.cells x.cs 34)) := (Kept.refl _ _).alloc _
  have HK0 := Lib.hid hk0
  have HB0 := Lib.hid (Box.new w 34 x.cs)
  have HP0 := Lib.hid ((Pair.ob (Fob.ob p s N) (Rfb.ob q s)).fresh ((Pair.ob (Fob.ob p s N) (Rfb.ob q s)).cut h) hk0)
  have HGS := Lib.hid hG
  have HBK := Lib.hid hbk
  have hvl := hx.vl
  have hml := hx.ml
  have HSITE := Lib.hid hx.site
  have HWF := Lib.hid hx.wf
  have HVN := Lib.hid hvn
  have HMN := Lib.hid hmn
  obtain ⟨s1, hs1⟩ : ∃ s1, stepF s x = s1 := ⟨_, rfl⟩
  have HS1 := Lib.hid hs1
  rw [hs1]
  clear h hG hx hvn hmn hbk hk0 hs1
  go_enter Try.func13, Try.ntmps13
  go_upto_region 1 with (fail)
  generalize w.alloc (.cells x.cs 34) = w0 at HK0 HB0 HP0 ⊢
  obtain ⟨X, hX⟩ : ∃ X, w.heap.size = X := ⟨_, rfl⟩
  have HWX := Lib.hid hX
  rw [hX] at HB0 HP0 ⊢
  clear hX
  have x2 : w0.cell? ⟨X, 2, none⟩ = some (.slice x.vA x.v.length x.vc) := (HB0.out.cell 2).trans rfl
  have HSRC := Lib.hid (HBK.out w0 (HK0.out.more fun _ _ e => e.elim)).1
  have HNZ := Lib.hid (DotsAt.nz HSRC.out HVN.out)
  go_wp2_with (at_builtin; refine wpList_append_copy eltDots rfl _ _ rfl rfl x.vA x.v.length x.vc (dots x.v) rfl HNZ.out (by rw [dots_len]) HSRC.out.cells (dots_one _) (by omega) ?_)
  intro B1 c1 w1 HO1 HK1
  have hs01 := HK1.out.size
  clear HSRC HNZ HVN x2
  go_wp2_with (at_builtin; refine wpList_append_new eltDots rfl _ _ rfl w0.heap.size _ x.v.length (dots x.v) rfl HO1.out 1 1 rfl rfl rfl (by omega) hs01 ?_)
  intro V0 vc w2 HO2 HK2 _
  have hk02 : Kept (fun _ => False) w0 w2 := HK1.out.trans HK2.out fun k hk e => by (have := (HO1.out.lt k e).1; omega)
  have hor : w2.ownsRow w0.heap.size 56 2 (.slice V0 (x.v.length + 1) vc) (x.v.length + 1) (dots (x.v ++ [mark77])) := by
    have := HO2.out
    rwa [show dots x.v ++ #[Value.int .i64 77, Value.int .i64 77].toList = dots (x.v ++ [mark77]) by simp [dots, mark77]] at this
  have HVO := Lib.hid hor
  have HB2 := Lib.hid (HB0.out.kept hk02 id)
  have HK02 := Lib.hid (HK0.out.trans hk02 fun _ _ e => e)
  have HP2 := Lib.hid ((Pair.ob (Fob.ob p s N) (Rfb.ob q s)).fresh HP0.out hk02)
  have HS2 := Lib.hid hk02.size
  clear hor hk02 HO2 HK2 HO1 HK1 hs01 HP0
  have HX0 := Lib.hid (show X < w0.heap.size from HB0.out.lt)
  clear HB0
  have x3 : w2.cell? ⟨X, 3, none⟩ = some (.slice x.mA x.ms.length x.mc) := (HB2.out.cell 3).trans rfl
  have HSRM := Lib.hid (HBK.out w2 (HK02.out.more fun _ _ e => e.elim)).2
  have HNZ := Lib.hid (IntsAt.nz HSRM.out HMN.out)
  go_wp2_with (at_builtin; refine wpList_append_copy eltInts rfl _ _ rfl rfl x.mA x.ms.length x.mc (x.ms.map encZ) rfl HNZ.out (by simp) HSRM.out.cells (encs_one _) (by omega) ?_)
  intro B3 c3 w3 HO3 HK3
  have hs23 := HK3.out.size
  clear HSRM HNZ HMN x3
  go_wp2_with (at_builtin; refine wpList_append_new eltInts rfl _ _ rfl w2.heap.size _ x.ms.length (x.ms.map encZ) rfl HO3.out 1 1 rfl rfl rfl (by omega) hs23 ?_)
  intro M0 mc w4 HO4 HK4 _
  have hk24 : Kept (fun _ => False) w2 w4 := HK3.out.trans HK4.out fun k hk e => by (have := (HO3.out.lt k e).1; omega)
  have hor : w4.ownsRow w2.heap.size 3 1 (.slice M0 (x.ms.length + 1) mc) (x.ms.length + 1) ((x.ms ++ [77]).map encZ) := by
    have := HO4.out
    rwa [show x.ms.map encZ ++ #[Value.int .i64 77].toList = (x.ms ++ [77]).map encZ by simp [encZ]] at this
  have hvo := hk24.own HVO.out fun _ _ => id
  have HB4 := Lib.hid (HB2.out.kept hk24 id)
  have HK04 := Lib.hid (HK02.out.trans hk24 fun _ _ e => e)
  have HP4 := Lib.hid ((Pair.ob (Fob.ob p s N) (Rfb.ob q s)).fresh HP2.out hk24)
  obtain ⟨gv, e1, e2, -, -⟩ := own_cells hvo (by omega)
  subst e1
  obtain ⟨gm, e3, e4, -, -⟩ := own_cells hor (by omega)
  subst e3
  have hcapv := (own_caps hvo).1
  have hcapm := (own_caps hor).1
  obtain ⟨b1, hb1⟩ : ∃ b1, w4.heap.size = b1 := ⟨_, rfl⟩
  have HGV := Lib.hid (show X < gv ∧ gv < gm ∧ gm < b1 from by
    have h1 := hvo.lt gv e2
    have h2 := hor.lt gm e4
    have h3 := HVO.out.lt gv e2
    have := HX0.out
    omega)
  have HW4 := Lib.hid (Nat.le_of_eq hb1.symm)
  have HVO4 := Lib.hid hvo
  have HMO4 := Lib.hid hor
  have hncv : (x.v.length : Int) ≤ (vc : Int) := by omega
  have hncm : (x.ms.length : Int) ≤ (mc : Int) := by omega
  have hnv0 : (0 : Int) ≤ (x.v.length : Int) := by omega
  have hnm0 : (0 : Int) ≤ (x.ms.length : Int) := by omega
  have x2 : w4.cell? ⟨X, 2, none⟩ = some (.slice x.vA x.v.length x.vc) := (HB4.out.cell 2).trans rfl
  have x0 : w4.cell? ⟨X, 0, none⟩ = some (.int .i64 x.kind) := (HB4.out.cell 0).trans rfl
  have HXK := Lib.hid (show ¬ ((G X ∧ X < X) ∨ b1 ≤ X) from fun e => by have := HGV.out; omega)
  have HBW := Lib.hid (show ∀ W, Kept (fun k => (G k ∧ k < X) ∨ b1 ≤ k) w4 W → Kept G w W from fun W hk => (HK04.out.more fun _ _ e => e.elim).trans hk fun k hk e => e.elim (fun e => e.1) fun e => HGS.out k (by have := HWX.out; have := HGV.out; omega))
  have HVW := Lib.hid (show ∀ W, Kept (fun k => (G k ∧ k < X) ∨ b1 ≤ k) w4 W → W.ownsRow w0.heap.size 56 2 (.slice (some ⟨gv, 0, none⟩) (x.v.length + 1) vc) (x.v.length + 1) (dots (x.v ++ [mark77])) from fun W hk => hk.own HVO4.out fun k e e9 => by
    have e10 : gv = k := by injection e
    have h1 := HGV.out
    have e11 : (G k ∧ k < X) ∨ b1 ≤ k := e9
    rcases e11 with e11 | e11
    · have h2 := e11.2; omega
    · omega)
  have HMW := Lib.hid (show ∀ W, Kept (fun k => (G k ∧ k < X) ∨ b1 ≤ k) w4 W → W.ownsRow w2.heap.size 3 1 (.slice (some ⟨gm, 0, none⟩) (x.ms.length + 1) mc) (x.ms.length + 1) ((x.ms ++ [77]).map encZ) from fun W hk => hk.own HMO4.out fun k e e9 => by
    have e10 : gm = k := by injection e
    have h1 := HGV.out
    have e11 : (G k ∧ k < X) ∨ b1 ≤ k := e9
    rcases e11 with e11 | e11
    · have h2 := e11.2; omega
    · omega)
  have HGW := Lib.hid (show ∀ W, Kept (fun k => (G k ∧ k < X) ∨ b1 ≤ k) w4 W → DotsAt W (some ⟨gv, 0, none⟩) x.v from fun W hk => DotsAt.pre (m := [mark77]) (DotsAt.of_own (n := (x.v ++ [mark77]).length) (by rw [List.length_append]; exact HVW.out W hk)))
  have HGM := Lib.hid (show ∀ W, Kept (fun k => (G k ∧ k < X) ∨ b1 ≤ k) w4 W → IntsAt W (some ⟨gm, 0, none⟩) x.ms from fun W hk => IntsAt.pre (m := [77]) (IntsAt.of_own (HMW.out W hk)))
  have HPX := Lib.hid ((Pair.ob (Fob.ob p s N) (Rfb.ob q s)).more HP4.out (S := (fun k => (G k ∧ k < X) ∨ b1 ≤ k)) fun _ e => .inl e)
  clear hk24 hor hvo hcapv hcapm hb1 HO3 HK3 HO4 HK4 HK0 HP2 HVO hs23 HVO4 HMO4 e2 e4 HB2 HK02 HS2
  go_upto_block 0 with (fail)
  go_cut [10] (fun v wx => v = .bool true ∧ Pair (Fob p s1 (N + 17)) (Rfb q s1) (fun k => (G k ∧ k < X) ∨ b1 ≤ k) wx ∧ Kept (fun k => (G k ∧ k < X) ∨ b1 ≤ k) w4 wx)
  case first =>
    have hcase : x.kind = 1 ∨ x.kind = 2 ∨ x.kind = 3 ∨ ¬ (1 ≤ x.kind ∧ x.kind ≤ 3) := by omega
    rcases hcase with hk | hk | hk | hk
    · as_aux_lemma =>
      have e1 : (x.kind == 1) = true := beq_iff_eq.2 hk
      have HZ := Lib.hid (show hear s x.site x.v = s1 by rw [← HS1.out]; exact (stepF_one hk).symm)
      clear hk x0 x2
      have x0 : w4.cell? ⟨X, 0, none⟩ = some (.int .i64 x.kind) := (HB4.out.cell 0).trans rfl
      go_upto_region 11 with (fail)
      refine wp_region_held_drew (S := fun Wz => Kept (fun k => (G k ∧ k < X) ∨ b1 ≤ k) w4 Wz) (by kernel_rfl) (Kept.refl _ w4).drew fun hS => ?_
      have HPD := Lib.hid ((Pair.ob (Fob.ob p s N) (Rfb.ob q s)).fresh HPX.out (Kept.refl (fun _ => False) w4).drew)
      have HWD := Lib.hid (show b1 ≤ w4.drew.heap.size from HW4.out)
      clear x0
      generalize w4.drew = W at hS HPD HWD ⊢
      refine held_takeTo 39 (i := 0) (v := .pointer (some ⟨p, 0, none⟩)) rfl rfl (by kernel_rfl) (by kernel_rfl) (by kernel_rfl) (fun _ _ _ h => h) rfl hS (fun Wz hW => by go_simp) ?_
      simp only [List.setIfInBounds_toArray, List.set_cons_zero, List.set_cons_succ]
      refine held_takeTo 40 (i := 1) (v := .pointer (some ⟨X, 1, none⟩)) rfl rfl (by kernel_rfl) (by kernel_rfl) (by kernel_rfl) (fun _ _ _ h => h) rfl hS (fun Wz hW => by go_simp) ?_
      simp only [List.setIfInBounds_toArray, List.set_cons_zero, List.set_cons_succ]
      refine held_takeTo 41 (i := 2) (v := .int .i64 x.site) rfl rfl (by kernel_rfl) (by kernel_rfl) (by kernel_rfl) (fun _ _ _ h => h) rfl hS (fun Wz hW => by (have hc : Wz.cell? ⟨X, 1, none⟩ = some (.int .i64 x.site) := ((HB4.out.kept hW HXK.out).cell 1).trans rfl; go_simp)) ?_
      simp only [List.setIfInBounds_toArray, List.set_cons_zero, List.set_cons_succ]
      refine held_takeTo 42 (i := 3) (v := .slice (some ⟨gv, 0, none⟩) x.v.length vc) rfl rfl (by kernel_rfl) (by kernel_rfl) (by kernel_rfl) (fun _ _ _ h => h) rfl hS (fun Wz hW => by go_simp) ?_
      simp only [List.setIfInBounds_toArray, List.set_cons_zero, List.set_cons_succ]
      refine held_takeTo 44 (i := 5) (v := .pointer (some ⟨q, 0, none⟩)) rfl rfl (by kernel_rfl) (by kernel_rfl) (by kernel_rfl) (fun _ _ _ h => h) rfl hS (fun Wz hW => by go_simp) ?_
      simp only [List.setIfInBounds_toArray, List.set_cons_zero, List.set_cons_succ]
      refine held_takeTo 45 (i := 6) (v := .pointer (some ⟨X, 1, none⟩)) rfl rfl (by kernel_rfl) (by kernel_rfl) (by kernel_rfl) (fun _ _ _ h => h) rfl hS (fun Wz hW => by go_simp) ?_
      simp only [List.setIfInBounds_toArray, List.set_cons_zero, List.set_cons_succ]
      refine held_takeTo 46 (i := 7) (v := .int .i64 x.site) rfl rfl (by kernel_rfl) (by kernel_rfl) (by kernel_rfl) (fun _ _ _ h => h) rfl hS (fun Wz hW => by (have hc : Wz.cell? ⟨X, 1, none⟩ = some (.int .i64 x.site) := ((HB4.out.kept hW HXK.out).cell 1).trans rfl; go_simp)) ?_
      simp only [List.setIfInBounds_toArray, List.set_cons_zero, List.set_cons_succ]
      refine held_takeTo 47 (i := 8) (v := .pointer (some ⟨X, 2, none⟩)) rfl rfl (by kernel_rfl) (by kernel_rfl) (by kernel_rfl) (fun _ _ _ h => h) rfl hS (fun Wz hW => by go_simp) ?_
      simp only [List.setIfInBounds_toArray, List.set_cons_zero, List.set_cons_succ]
      refine held_takeTo 48 (i := 9) (v := .slice x.vA x.v.length x.vc) rfl rfl (by kernel_rfl) (by kernel_rfl) (by kernel_rfl) (fun _ _ _ h => h) rfl hS (fun Wz hW => by (have hc : Wz.cell? ⟨X, 2, none⟩ = some (.slice x.vA x.v.length x.vc) := ((HB4.out.kept hW HXK.out).cell 2).trans rfl; go_simp)) ?_
      simp only [List.setIfInBounds_toArray, List.set_cons_zero, List.set_cons_succ]
      refine held_one (i := 4) (by kernel_rfl) rfl fun K hK => ?_
      obtain ⟨H, h1, h2, h3, h4⟩ := HPD.out.left (Rfb.ob _ _) (Fob.ob _ _ _) (fun j e => .inr (Nat.le_trans HWD.out e))
      have hop := h1.hear (m := x.site) h2 (by omega) HSITE.out (some ⟨gv, 0, none⟩) x.v vc (fun W' hk => HGW.out W' (hS.trans hk fun k _ e => h3 k e)) (by omega)
      rw [HZ.out] at hop
      have HH4 := Lib.hid h4
      clear h1 h2 h3 h4
      go_wp2_with (fail)
      refine hop.mono ?_
      clear hop
      rintro r W1 ⟨rfl, hn, hkk⟩
      obtain ⟨hp, hkk⟩ := HH4.out _ _ (Fob.ob _ _ _) hn hkk
      have HP5 := Lib.hid hp
      have HWD1 := Lib.hid (Nat.le_trans HWD.out hkk.size)
      have hS1 : Kept (fun k => (G k ∧ k < X) ∨ b1 ≤ k) w4 W1 := hS.trans hkk fun _ _ e => e
      clear hn hp hkk HH4 hS HPD HWD
      go_wp2_with (fail)
      refine hK.out _ _ hS1 fun _ => ?_
      clear hK K
      refine held_one (i := 10) (by kernel_rfl) rfl fun K hK => ?_
      obtain ⟨H, h1, h2, h3, h4⟩ := HP5.out.right (Fob.ob _ _ _) (Rfb.ob _ _) (fun j e => .inr (Nat.le_trans HWD1.out e))
      have hop := h1.hear (m := x.site) h2 x.vA x.v x.vc (fun W' hk => (HBK.out W' (HBW.out W' (hS1.trans hk fun k _ e => h3 k e))).1) (by omega)
      rw [HZ.out] at hop
      have HH4 := Lib.hid h4
      clear h1 h2 h3 h4
      go_wp2_with (fail)
      refine hop.mono ?_
      clear hop
      rintro r W2 ⟨rfl, hn, hkk⟩
      obtain ⟨hp, hkk⟩ := HH4.out _ _ (Rfb.ob _ _) hn hkk
      have HP6 := Lib.hid hp
      have hS2 : Kept (fun k => (G k ∧ k < X) ∨ b1 ≤ k) w4 W2 := hS1.trans hkk fun _ _ e => e
      clear hn hp hkk HH4 hS1 HP5 HWD1
      go_wp2_with (fail)
      refine hK.out _ _ hS2 fun _ => ?_
      clear hK K
      have hee : (hearE x.site x.v == hearE x.site x.v) = true := beq_self_eq_true _
      refine held_takeTo 50 (i := 11) (v := .bool true) rfl rfl (by kernel_rfl) (by kernel_rfl) (by kernel_rfl) (fun _ _ _ h => h) rfl hS2 (fun Wz hW => by go_simp) ?_
      simp only [List.setIfInBounds_toArray, List.set_cons_zero, List.set_cons_succ]
      refine held_takeTo 10 (i := 12) (v := .bool true) rfl rfl (by kernel_rfl) (by kernel_rfl) (by kernel_rfl) (fun _ _ _ h => h) rfl hS2 (fun Wz hW => by go_simp) ?_
      simp only [List.setIfInBounds_toArray, List.set_cons_zero, List.set_cons_succ]
      refine wpAnyH_done (by kernel_rfl) ?_ _
      have HK6 := Lib.hid hS2
      clear hS2
      go_wp2_with (fail)
      go_meet
      case rel => exact ⟨rfl, HP6.out.fst_mono (Fob.widen (by omega)), HK6.out⟩
    · as_aux_lemma =>
      have e1 : (x.kind == 1) = false := beq_eq_false_iff_ne.mpr (by omega)
      have e2 : (x.kind == 2) = true := beq_iff_eq.2 hk
      have HZ := Lib.hid (show settle s x.v = s1 by rw [← HS1.out]; exact (stepF_two hk).symm)
      obtain ⟨H, h1, h2, h3, h4⟩ := HPX.out.left (Rfb.ob _ _) (Fob.ob _ _ _) (fun j e => .inr (Nat.le_trans HW4.out e))
      have hop := h1.settle h2 (by omega) (some ⟨gv, 0, none⟩) x.v vc (fun W hk => HGW.out W (hk.more fun k _ e => h3 k e)) (by omega)
      rw [HZ.out] at hop
      have HH4 := Lib.hid h4
      have y2 : w4.cell? ⟨X, 2, none⟩ = some (.slice x.vA x.v.length x.vc) := (HB4.out.cell 2).trans rfl
      clear h1 h2 h3 h4 hk
      go_wp2_with (fail)
      refine hop.mono ?_
      clear hop
      rintro r w5 ⟨⟨u5, rfl⟩, hn, hkk⟩
      obtain ⟨hp, hkk⟩ := HH4.out _ _ (Fob.ob _ _ _) hn hkk
      have HP5 := Lib.hid hp
      have HK5 := Lib.hid hkk
      have HB5 := Lib.hid (HB4.out.kept hkk HXK.out)
      clear hn hp hkk HH4 y2 x0 x2
      obtain ⟨H, h1, h2, h3, h4⟩ := HP5.out.right (Fob.ob _ _ _) (Rfb.ob _ _) (fun j e => .inr (by have := HW4.out; have := HK5.out.size; omega))
      have hop := h1.settle h2 x.vA x.v x.vc (fun W hk => (HBK.out W ((HBW.out w5 HK5.out).trans hk fun k hk e => (h3 k e).elim (fun e => e.1) fun e => HGS.out k (by have := HWX.out; have := HGV.out; omega))).1) (by omega)
      rw [HZ.out] at hop
      have HH4 := Lib.hid h4
      have y2 : w5.cell? ⟨X, 2, none⟩ = some (.slice x.vA x.v.length x.vc) := (HB5.out.cell 2).trans rfl
      clear h1 h2 h3 h4
      go_wp2_with (fail)
      refine hop.mono ?_
      clear hop
      rintro r w6 ⟨⟨u6, rfl⟩, hn, hkk⟩
      obtain ⟨hp, hkk⟩ := HH4.out _ _ (Rfb.ob _ _) hn hkk
      have HP6 := Lib.hid hp
      have HK6 := Lib.hid (HK5.out.trans hkk fun _ _ e => e)
      clear hn hp hkk HH4 y2
      go_wp2_with (fail)
      go_meet
      case rel => exact ⟨rfl, HP6.out, HK6.out⟩
    · as_aux_lemma =>
      have e1 : (x.kind == 1) = false := beq_eq_false_iff_ne.mpr (by omega)
      have e2 : (x.kind == 2) = false := beq_eq_false_iff_ne.mpr (by omega)
      have e3 : (x.kind == 3) = true := beq_iff_eq.2 hk
      have HZ := Lib.hid (show s = s1 by rw [← HS1.out]; exact (stepF_other (by omega)).symm)
      obtain ⟨z, hz⟩ : ∃ z, frontier s x.ms x.site x.v = z := ⟨_, rfl⟩
      have HZE := Lib.hid hz
      have HZL := Lib.hid (show z.length ≤ 1000000 by rw [← hz]; unfold frontier; split; exact frontF_len (by omega) _ _ (by omega); exact Nat.zero_le _)
      clear hk x0 x2 hz
      have x0 : w4.cell? ⟨X, 0, none⟩ = some (.int .i64 x.kind) := (HB4.out.cell 0).trans rfl
      go_upto_region 16 with (fail)
      refine wp_region_held_drew (S := fun Wz => Kept (fun _ => False) w4 Wz) (by kernel_rfl) (Kept.refl _ w4).drew fun hS => ?_
      clear x0
      generalize w4.drew = W at hS ⊢
      refine held_takeTo 62 (i := 0) (v := .pointer (some ⟨p, 0, none⟩)) rfl rfl (by kernel_rfl) (by kernel_rfl) (by kernel_rfl) (fun _ _ _ h => h) rfl hS (fun Wz hW => by go_simp) ?_
      simp only [List.setIfInBounds_toArray, List.set_cons_zero, List.set_cons_succ]
      refine held_takeTo 63 (i := 1) (v := .slice (some ⟨gm, 0, none⟩) (x.ms.length + 1) mc) rfl rfl (by kernel_rfl) (by kernel_rfl) (by kernel_rfl) (fun _ _ _ h => h) rfl hS (fun Wz hW => by go_simp) ?_
      simp only [List.setIfInBounds_toArray, List.set_cons_zero, List.set_cons_succ]
      refine held_takeTo 64 (i := 2) (v := .pointer (some ⟨X, 3, none⟩)) rfl rfl (by kernel_rfl) (by kernel_rfl) (by kernel_rfl) (fun _ _ _ h => h) rfl hS (fun Wz hW => by go_simp) ?_
      simp only [List.setIfInBounds_toArray, List.set_cons_zero, List.set_cons_succ]
      refine held_takeTo 65 (i := 3) (v := .slice x.mA x.ms.length x.mc) rfl rfl (by kernel_rfl) (by kernel_rfl) (by kernel_rfl) (fun _ _ _ h => h) rfl hS (fun Wz hW => by (have hc : Wz.cell? ⟨X, 3, none⟩ = some (.slice x.mA x.ms.length x.mc) := ((HB4.out.kept hW id).cell 3).trans rfl; go_simp)) ?_
      simp only [List.setIfInBounds_toArray, List.set_cons_zero, List.set_cons_succ]
      refine held_takeTo 66 (i := 4) (v := .int .i64 x.ms.length) rfl rfl (by kernel_rfl) (by kernel_rfl) (by kernel_rfl) (fun _ _ _ h => h) rfl hS (fun Wz hW => by go_simp) ?_
      simp only [List.setIfInBounds_toArray, List.set_cons_zero, List.set_cons_succ]
      refine held_takeTo 67 (i := 5) (v := .slice (some ⟨gm, 0, none⟩) x.ms.length mc) rfl rfl (by kernel_rfl) (by kernel_rfl) (by kernel_rfl) (fun _ _ _ h => h) rfl hS (fun Wz hW => by go_simp) ?_
      simp only [List.setIfInBounds_toArray, List.set_cons_zero, List.set_cons_succ]
      refine held_takeTo 68 (i := 6) (v := .pointer (some ⟨X, 1, none⟩)) rfl rfl (by kernel_rfl) (by kernel_rfl) (by kernel_rfl) (fun _ _ _ h => h) rfl hS (fun Wz hW => by go_simp) ?_
      simp only [List.setIfInBounds_toArray, List.set_cons_zero, List.set_cons_succ]
      refine held_takeTo 69 (i := 7) (v := .int .i64 x.site) rfl rfl (by kernel_rfl) (by kernel_rfl) (by kernel_rfl) (fun _ _ _ h => h) rfl hS (fun Wz hW => by (have hc : Wz.cell? ⟨X, 1, none⟩ = some (.int .i64 x.site) := ((HB4.out.kept hW id).cell 1).trans rfl; go_simp)) ?_
      simp only [List.setIfInBounds_toArray, List.set_cons_zero, List.set_cons_succ]
      refine held_takeTo 70 (i := 8) (v := .slice (some ⟨gv, 0, none⟩) x.v.length vc) rfl rfl (by kernel_rfl) (by kernel_rfl) (by kernel_rfl) (fun _ _ _ h => h) rfl hS (fun Wz hW => by go_simp) ?_
      simp only [List.setIfInBounds_toArray, List.set_cons_zero, List.set_cons_succ]
      refine held_one (i := 9) (by kernel_rfl) rfl fun K hK => ?_
      have hop := (((Pair.ob (Fob.ob _ _ _) (Rfb.ob _ _)).fresh HP4.out hS).fst (Fob.ob _ _ _)).frontier_ (some ⟨gm, 0, none⟩) x.ms mc x.site (some ⟨gv, 0, none⟩) x.v vc (HGM.out W (hS.more fun _ _ e => e.elim)) (HGW.out W (hS.more fun _ _ e => e.elim)) (by omega) (by omega) HWF.out
      rw [HZE.out] at hop
      go_wp2_with (fail)
      refine hop.mono ?_
      clear hop
      rintro r W1 ⟨A1, c1, rfl, ho, hkk⟩
      have HO1 := Lib.hid (own_base ho (Nat.le_trans HW4.out hS.size))
      have hS1 : Kept (fun _ => False) w4 W1 := hS.trans hkk fun _ _ e => e
      clear ho hkk hS
      go_wp2_with (fail)
      refine hK.out _ _ hS1 fun _ => ?_
      clear hK K
      refine held_takeTo 11 (i := 10) (v := .slice A1 z.length c1) rfl rfl (by kernel_rfl) (by kernel_rfl) (by kernel_rfl) (fun _ _ _ h => h) rfl hS1 (fun Wz hW => by go_simp) ?_
      simp only [List.setIfInBounds_toArray, List.set_cons_zero, List.set_cons_succ]
      refine wpAnyH_done (by kernel_rfl) ?_ _
      have HK1 := Lib.hid hS1
      have y1 : W1.cell? ⟨X, 1, none⟩ = some (.int .i64 x.site) := ((HB4.out.kept hS1 id).cell 1).trans rfl
      have y2 : W1.cell? ⟨X, 2, none⟩ = some (.slice x.vA x.v.length x.vc) := ((HB4.out.kept hS1 id).cell 2).trans rfl
      have y3 : W1.cell? ⟨X, 3, none⟩ = some (.slice x.mA x.ms.length x.mc) := ((HB4.out.kept hS1 id).cell 3).trans rfl
      have hop := (((Pair.ob (Fob.ob _ _ _) (Rfb.ob _ _)).fresh HP4.out hS1).snd (Rfb.ob _ _)).frontier_ x.mA x.ms x.mc x.site x.vA x.v x.vc (HBK.out W1 (HBW.out W1 (hS1.more fun _ _ e => e.elim))).2 (HBK.out W1 (HBW.out W1 (hS1.more fun _ _ e => e.elim))).1 (by omega) (by omega)
      rw [HZE.out] at hop
      have HOP := Lib.hid hop
      clear hS1 hop
      go_wp2_with (fail)
      refine HOP.out.mono ?_
      rintro r W2 ⟨A2, c2, rfl, ho, hkk⟩
      have HK2 := Lib.hid (HK1.out.trans hkk fun _ _ e => e)
      have HO2 := Lib.hid (hkk.own HO1.out fun _ _ => id)
      have hve := vectors_any A1 A2 z z c1 c2 W2 (DotsAt.of_own HO2.out) (DotsAt.of_own ho) (by have := HZL.out; omega)
      rw [decide_eq_true rfl] at hve
      have HVE := Lib.hid hve
      clear ho hkk hve y1 y2 y3 HOP HO1 HK1
      go_wp2_with (fail)
      refine HVE.out.mono ?_
      unfold SamePost
      rintro r W3 ⟨rfl, hkk⟩
      have HK3 := Lib.hid (HK2.out.trans hkk fun _ _ e => e)
      have HO3 := Lib.hid (hkk.own HO2.out fun _ _ => id)
      clear hkk HVE HK2 HO2
      go_wp2_with (fail)
      go_loopw [12] (fun i wr => ∃ (k : Nat) (l' : List Dt), i = .int .i64 k ∧ k ≤ z.length ∧ wr.ownsRow b1 56 2 (.slice A1 z.length c1) z.length (dots l') ∧ Kept (fun j => b1 ≤ j) w4 wr) (fun i _ => z.length - (intOf i).toNat)
      case atStart => exact ⟨0, z, rfl, Nat.zero_le _, HO3.out, HK3.out.more fun _ _ e => e.elim⟩
      case round =>
        obtain ⟨k, l', rfl, hk, ho, hkk⟩ := hrel
        have HKK := Lib.hid hkk
        have HO := Lib.hid ho
        have hzl := HZL.out
        clear hkk HO3 HK3
        by_cases hlt : k < z.length
        · obtain ⟨g', a, b, hA, hgb, y0, y1, f, ho', hK⟩ := dots_turn ho hlt ⟨9, 9⟩
          have hgl := (ho.lt g' hgb).1
          subst hA
          have f0 := f (k * 2)
          have f1 := f (k * 2 + 1)
          have H3 := Lib.hid ho'
          have H4 := Lib.hid (HKK.out.trans (hK.more (T := fun j => b1 ≤ j) fun j _ e => by rw [e]; exact hgl) fun _ _ e => e)
          have hi0 : (0 : Int) ≤ (k : Int) := by omega
          have hin : (k : Int) < (z.length : Int) := by omega
          clear f ho ho' hK hgb hgl
          go_wp2_with (fail)
          go_roundw
          case rel => exact ⟨k + 1, _, by go_num, by omega, H3.out, H4.out⟩
          case measure => simp [intOf]; omega
        · obtain rfl : k = z.length := by omega
          clear ho
          have HPF := Lib.hid ((Pair.ob (Fob.ob p s N) (Rfb.ob q s)).kept HP4.out HKK.out fun j e e9 => by have := HGV.out; have := e.2; omega)
          obtain rfl := HZ.out
          go_wp2_with (fail)
          go_meet
          case rel => exact ⟨rfl, ((Pair.ob (Fob.ob _ _ _) (Rfb.ob _ _)).more HPF.out fun j e => .inl e).fst_mono (Fob.widen (by omega)), HKK.out.more fun _ _ e => .inr e⟩
    · as_aux_lemma =>
      have e1 : (x.kind == 1) = false := beq_eq_false_iff_ne.mpr (by omega)
      have e2 : (x.kind == 2) = false := beq_eq_false_iff_ne.mpr (by omega)
      have e3 : (x.kind == 3) = false := beq_eq_false_iff_ne.mpr (by omega)
      have HZ := Lib.hid (show s = s1 by rw [← HS1.out]; exact (stepF_other (by omega)).symm)
      obtain rfl := HZ.out
      clear hk HZ
      go_wp2_with (fail)
      go_meet
      case rel => exact ⟨rfl, HPX.out.fst_mono (Fob.widen (by omega)), Kept.refl _ _⟩
  case rest =>
    as_aux_lemma =>
    obtain ⟨rfl, hp5, hk5⟩ := hcut
    obtain ⟨w5, rfl⟩ : ∃ w5 : World, w5 = wc := ⟨_, rfl⟩
    have HP5 := Lib.hid hp5
    have HK5 := Lib.hid hk5
    have HM5 := Lib.hid (HMW.out w5 hk5)
    have HV5 := Lib.hid (HVW.out w5 hk5)
    have HB5 := Lib.hid (HB4.out.kept hk5 HXK.out)
    have HL5 := Lib.hid (show ∀ W, Kept (fun j => j = gm ∨ j = gv) w5 W → DotsAt W x.vA x.v ∧ IntsAt W x.mA x.ms from fun W hk => HBK.out W ((HBW.out w5 hk5).trans hk fun j hj e => HGS.out j (by have := HWX.out; have := HGV.out; omega)))
    have HBW5 := Lib.hid (HBW.out w5 hk5)
    have hle : (x.ms.length : Int) ≤ 20000 := by omega
    clear hp5 hk5 x0 x2 HP4 HB4 HMW HVW HGW HGM HPX HBW HXK HSITE HWF
    go_wp2_with (fail)
    go_loopw [10, 13] (fun v10 i wr => v10 = .bool true ∧ ∃ k : Nat, i = .int .i64 k ∧ k ≤ x.ms.length ∧ wr.ownsRow w2.heap.size 3 1 (.slice (some ⟨gm, 0, none⟩) (x.ms.length + 1) mc) (x.ms.length + 1) ((over k (x.ms ++ [77])).map encZ) ∧ Kept (fun j => j = gm) w5 wr) (fun _ i _ => x.ms.length - (intOf i).toNat)
    case atStart => exact ⟨rfl, 0, rfl, Nat.zero_le _, by rw [over_zero]; exact HM5.out, Kept.refl _ _⟩
    case round =>
      obtain ⟨rfl, k, rfl, hk, hm, hkk⟩ := hrel
      have HKK := Lib.hid hkk
      have HM6 := Lib.hid hm
      have HB6 := Lib.hid (HB5.out.kept hkk (by have := HGV.out; omega))
      clear hkk HM5
      have x3 : wr.cell? ⟨X, 3, none⟩ = some (.slice x.mA x.ms.length x.mc) := (HB6.out.cell 3).trans rfl
      by_cases hlt : k < x.ms.length
      · as_aux_lemma =>
        obtain ⟨ad, hA, y0⟩ := (HL5.out wr (HKK.out.more fun _ _ e => .inl e)).2 k hlt
        obtain ⟨g', hA', hgb, hcell, hf⟩ := own_cells hm (by omega)
        injection hA' with hA'
        injection hA' with hA' _ _
        subst hA'
        rw [hA] at x3
        have z0 : wr.cell? ⟨gm, k, none⟩ = some (.int .i64 x.ms[k]) := hcell k _ (by rw [List.getElem?_map, over_get (show k < (x.ms ++ [77]).length by simp; omega), List.getElem_append_left hlt]; rfl)
        have f0 := hf k
        have HST := Lib.hid (show (wr.setCell ⟨gm, k, none⟩ (.int .i64 3)).ownsRow w2.heap.size 3 1 (.slice (some ⟨gm, 0, none⟩) (x.ms.length + 1) mc) (x.ms.length + 1) ((over (k + 1) (x.ms ++ [77])).map encZ) from by
          have h1 := (World.ownsRow.stored hm k (.int .i64 3)).1
          rw [← over_set (show k < (x.ms ++ [77]).length by simp; omega), List.map_set]
          exact h1)
        have HKS := Lib.hid (HKK.out.at (g := gm) k (.int .i64 3) (.inl rfl))
        have hi0 : (0 : Int) ≤ (k : Int) := by omega
        have hin : (k : Int) < (x.ms.length : Int) := by omega
        have hin' : (k : Int) < ((x.ms.length + 1 : Nat) : Int) := by omega
        obtain ⟨m, hmm⟩ : ∃ m, x.ms[k] = m := ⟨_, rfl⟩
        rw [hmm] at y0 z0
        have hee : (m == m) = true := beq_self_eq_true _
        clear hmm hm hcell hf hA
        go_wp2_with (fail)
        go_quiet (fail)
        go_wp2_with (fail)
        go_roundw
        case rel => exact ⟨rfl, k + 1, by go_num, by omega, HST.out, (HKK.out.drewN nq).at (g := gm) k (.int .i64 3) (.inl rfl)⟩
        case measure => simp [intOf]; omega
      · obtain rfl : k = x.ms.length := by omega
        as_aux_lemma =>
        have hlt' : ¬ (x.ms.length : Int) < (x.ms.length : Int) := by omega
        have x2 : wr.cell? ⟨X, 2, none⟩ = some (.slice x.vA x.v.length x.vc) := (HB6.out.cell 2).trans rfl
        have HV6 := Lib.hid (HKK.out.own HV5.out fun j e e9 => by
          have e10 : gv = j := by injection e
          have h1 := HGV.out
          omega)
        have HVD := Lib.hid (DotsAt.pre (m := [mark77]) (DotsAt.of_own (n := (x.v ++ [mark77]).length) (show wr.ownsRow w0.heap.size 56 2 (.slice (some ⟨gv, 0, none⟩) (x.v ++ [mark77]).length vc) (x.v ++ [mark77]).length (dots (x.v ++ [mark77])) by rw [List.length_append]; exact HV6.out)))
        have hve := vectors_any (some ⟨gv, 0, none⟩) x.vA x.v x.v vc x.vc wr HVD.out (HL5.out wr (HKK.out.more fun _ _ e => .inl e)).1 (by omega)
        rw [decide_eq_true rfl] at hve
        have HVE := Lib.hid hve
        clear hve hm
        go_wp2_with (fail)
        refine HVE.out.mono ?_
        unfold SamePost
        rintro r w6 ⟨rfl, hkk⟩
        have HV7 := Lib.hid (hkk.own HV6.out fun _ _ => id)
        have HM7 := Lib.hid (hkk.own HM6.out fun _ _ => id)
        have HB7 := Lib.hid (HB6.out.kept hkk id)
        have HK7 := Lib.hid (HKK.out.trans hkk fun _ _ e => e.elim)
        have z2 : w6.cell? ⟨X, 2, none⟩ = some (.slice x.vA x.v.length x.vc) := (HB7.out.cell 2).trans rfl
        have z3 : w6.cell? ⟨X, 3, none⟩ = some (.slice x.mA x.ms.length x.mc) := (HB7.out.cell 3).trans rfl
        have z77 : w6.cell? ⟨gv, x.v.length * 2 + 1, none⟩ = some (.int .i64 77) := by
          obtain ⟨g', hA, hb', hc', -⟩ := own_cells HV7.out (by omega)
          injection hA with hA
          injection hA with hA _ _
          subst hA
          refine hc' _ _ ?_
          obtain ⟨-, g1⟩ := dots_get (x.v ++ [mark77]) x.v.length (by simp)
          rw [g1]
          simp [mark77]
        have m77 : w6.cell? ⟨gm, x.ms.length, none⟩ = some (.int .i64 77) := by
          obtain ⟨g', hA, hb', hc', -⟩ := own_cells HM7.out (by omega)
          injection hA with hA
          injection hA with hA _ _
          subst hA
          refine hc' _ _ ?_
          rw [List.getElem?_map, over_get (show x.ms.length < (x.ms ++ [77]).length by simp)]
          simp [encZ]
        have hi1 : (x.v.length : Int) < ((x.v.length + 1 : Nat) : Int) := by omega
        have hi2 : (x.ms.length : Int) < ((x.ms.length + 1 : Nat) : Int) := by omega
        clear hkk HVE HV6 HM6 HB6 HKK HVD x2 x3
        go_wp2_with (fail)
        clear z2 z3 z77 m77
        go_loopw [14] (fun i wz => ∃ (k : Nat) (l' : List Dt), i = .int .i64 k ∧ k ≤ x.v.length + 1 ∧ wz.ownsRow w0.heap.size 56 2 (.slice (some ⟨gv, 0, none⟩) (x.v.length + 1) vc) (x.v.length + 1) (dots l') ∧ Kept (fun j => j = gm ∨ j = gv) w5 wz) (fun i _ => x.v.length + 1 - (intOf i).toNat)
        case atStart => exact ⟨0, _, rfl, Nat.zero_le _, HV7.out, HK7.out.more fun _ _ e => .inl e⟩
        case round =>
          obtain ⟨k, l', rfl, hk, ho, hkk⟩ := hrel
          have HKK := Lib.hid hkk
          clear hkk HV7 HK7 HM7 HB7
          by_cases hlt : k < x.v.length + 1
          · obtain ⟨g', a, b, hA, hgb, y0, y1, f, ho', hK⟩ := dots_turn ho hlt ⟨1, 99⟩
            injection hA with hA
            injection hA with hA _ _
            subst hA
            have f0 := f (k * 2)
            have f1 := f (k * 2 + 1)
            have H3 := Lib.hid ho'
            have H4 := Lib.hid (HKK.out.trans (hK.more (T := fun j => j = gm ∨ j = gv) fun j _ e => .inr e) fun _ _ e => e)
            have hi0 : (0 : Int) ≤ (k : Int) := by omega
            have hin : (k : Int) < ((x.v.length + 1 : Nat) : Int) := by omega
            clear f ho ho' hK hgb
            go_wp2_with (fail)
            go_roundw
            case rel => exact ⟨k + 1, _, by go_num, by omega, H3.out, H4.out⟩
            case measure => simp [intOf]; omega
          · obtain rfl : k = x.v.length + 1 := by omega
            clear ho
            have HPF := Lib.hid ((Pair.ob (Fob.ob p s1 (N + 17)) (Rfb.ob q s1)).kept HP5.out HKK.out fun j e e9 => by
              have h1 := HGV.out
              have e8 : j = gm ∨ j = gv := e9
              have e7 : (G j ∧ j < X) ∨ b1 ≤ j := e
              omega)
            have HKF := Lib.hid (HBW5.out.trans HKK.out fun j hj e => by
              have h1 := HGV.out
              have h2 := HWX.out
              have e8 : j = gm ∨ j = gv := e
              omega)
            have HGG := Lib.hid (show ∀ j, (G j ∧ j < X) ∨ b1 ≤ j → G j from fun j e => e.elim (fun e => e.1) fun e => HGS.out j (by have := HWX.out; have := HGV.out; omega))
            go_wp2_with (fail)
            go_ret
            exact ⟨rfl, (Pair.ob (Fob.ob _ _ _) (Rfb.ob _ _)).more HPF.out HGG.out, HKF.out⟩
end Go.Proofs.Ythlejmpeigfdgaa
