/- The walk of the law's do: one call on a Front. Conditions: the Front lies in memory of its own, the step's list elsewhere. -/
import Derived.Test.YthlejmpeigfdgaaFOrQ
namespace Go.Proofs.Ythlejmpeigfdgaa
open Go Go.RowKit

set_option maxRecDepth 100000 in
set_option maxHeartbeats 3200000 in
theorem Do14_any (p N : Nat) (s : List Fp) (y : Stf) (G : Nat → Prop) (W : World) (h : Fob p s N G W) (hG : ∀ k, W.heap.size ≤ k → G k) (hN : N < 800000) (hs : (Lit.int .i64 y.site).wf = true) (hl : y.v.length ≤ 20000) (hv : ∀ W', Kept G W W' → DotsAt W' y.vA y.v) :
    Calls Try.prog 20 #[.pointer (some ⟨p, 0, none⟩), .agg y.cs] W fun r W' => (∃ u, r = .returned u) ∧ Fob p (stepF s y) (N + 17) G W' ∧ Kept G W W' := by
  have hka : Kept (fun _ => False) W (W.alloc (.cells y.cs 34)) := (Kept.refl _ _).alloc _
  have HK := Lib.hid hka
  have HF := Lib.hid ((Fob.ob _ _ _).fresh h hka)
  have HB := Lib.hid (Box.new W 34 y.cs)
  have HG := Lib.hid hG
  have HV := Lib.hid hv
  have HS := Lib.hid hs
  clear h hka hG hv hs
  go_enter Try.func20, Try.ntmps20
  go_upto_region 1 with (fail)
  generalize W.alloc (.cells y.cs 34) = w0 at HK HF HB ⊢
  have x0 : w0.cell? ⟨W.heap.size, 0, none⟩ = some (.int .i64 y.kind) := (HB.out.cell 0).trans rfl
  have x1 : w0.cell? ⟨W.heap.size, 1, none⟩ = some (.int .i64 y.site) := (HB.out.cell 1).trans rfl
  have x2 : w0.cell? ⟨W.heap.size, 2, none⟩ = some (.slice y.vA y.v.length y.vc) := (HB.out.cell 2).trans rfl
  have HZ := Lib.hid HK.out.size
  clear HB
  generalize W.heap.size = g at x0 x1 x2 HZ HG ⊢
  have HG0 := Lib.hid (show ∀ k, w0.heap.size ≤ k → G k from fun k e => HG.out k (Nat.le_trans HZ.out e))
  have HV0 := Lib.hid (show ∀ W', Kept G w0 W' → DotsAt W' y.vA y.v from fun W' hk => HV.out W' ((HK.out.more fun _ _ e => e.elim).trans hk fun _ _ e => e))
  clear HZ HG HV
  obtain ⟨kd, hkd⟩ : ∃ kd, y.kind = kd := ⟨_, rfl⟩
  rw [hkd] at x0
  by_cases h1 : kd = 1
  case' pos =>
    as_aux_lemma =>
    subst h1
    have hc := HF.out.hear (m := y.site) HG0.out (by omega) HS.out y.vA y.v y.vc HV0.out (by omega)
    rw [← stepF_one hkd] at hc
    go_wp2_with (fail)
    refine hc.mono ?_
    clear hc x0 x1 x2 hkd
    rintro r w1 ⟨rfl, hn, hk⟩
    have HN := Lib.hid (Fob.widen (show N + 1 ≤ N + 17 by omega) _ _ hn)
    have HKK := Lib.hid ((HK.out.more fun _ _ e => e.elim).trans hk fun _ _ e => e)
    clear hn hk
    go_wp2_with (fail)
    go_end0
    exact ⟨⟨_, rfl⟩, HN.out, HKK.out⟩
  have e1 : (kd == 1) = false := beq_eq_false_iff_ne.mpr h1
  by_cases h2 : kd = 2
  case' pos =>
    as_aux_lemma =>
    subst h2
    have hc := HF.out.settle HG0.out (by omega) y.vA y.v y.vc HV0.out (by omega)
    rw [← stepF_two hkd] at hc
    go_wp2_with (fail)
    refine hc.mono ?_
    clear hc x0 x1 x2 hkd
    rintro r w1 ⟨⟨u, rfl⟩, hn, hk⟩
    have HN := Lib.hid hn
    have HKK := Lib.hid ((HK.out.more fun _ _ e => e.elim).trans hk fun _ _ e => e)
    clear hn hk
    go_wp2_with (fail)
    go_end0
    exact ⟨⟨_, rfl⟩, HN.out, HKK.out⟩
  have e2 : (kd == 2) = false := beq_eq_false_iff_ne.mpr h2
  have HST := Lib.hid (show stepF s y = s from stepF_other (by rw [hkd]; omega))
  clear h1 h2 hkd
  go_wp2_with (fail)
  go_end0
  exact ⟨⟨_, rfl⟩, by rw [HST.out]; exact Fob.widen (by omega) _ _ HF.out, HK.out.more fun _ _ e => e.elim⟩
theorem Pair.doL {p N : Nat} {s : List Fp} {y : Stf} {B : (Nat → Prop) → World → Prop} {G : Nat → Prop} {W : World} (hb : Ob B) (h : Pair (Fob p s N) B G W) (hG : ∀ k, W.heap.size ≤ k → G k) (hN : N < 800000) (hs : (Lit.int .i64 y.site).wf = true) (hl : y.v.length ≤ 20000) (hv : ∀ W', Kept G W W' → DotsAt W' y.vA y.v) :
    Calls Try.prog 20 #[.pointer (some ⟨p, 0, none⟩), .agg y.cs] W fun r W' => (∃ u, r = .returned u) ∧ Pair (Fob p (stepF s y) (N + 17)) B G W' ∧ Kept G W W' := by
  obtain ⟨H, h1, h2, h3, h4⟩ := h.left hb (Fob.ob _ _ _) hG
  refine (Do14_any p N s y H W h1 h2 hN hs hl (fun W' hk => hv W' (hk.more fun k _ e => h3 k e))).mono ?_
  rintro r W' ⟨h5, h6, h7⟩
  exact ⟨h5, h4 _ _ (Fob.ob _ _ _) h6 h7⟩
theorem Pair.doR {p N : Nat} {s : List Fp} {y : Stf} {B : (Nat → Prop) → World → Prop} {G : Nat → Prop} {W : World} (hb : Ob B) (h : Pair B (Fob p s N) G W) (hG : ∀ k, W.heap.size ≤ k → G k) (hN : N < 800000) (hs : (Lit.int .i64 y.site).wf = true) (hl : y.v.length ≤ 20000) (hv : ∀ W', Kept G W W' → DotsAt W' y.vA y.v) :
    Calls Try.prog 20 #[.pointer (some ⟨p, 0, none⟩), .agg y.cs] W fun r W' => (∃ u, r = .returned u) ∧ Pair B (Fob p (stepF s y) (N + 17)) G W' ∧ Kept G W W' := by
  refine (h.swap.doL hb hG hN hs hl hv).mono ?_
  rintro r W' ⟨h5, h6, h7⟩
  exact ⟨h5, h6.swap, h7⟩
end Go.Proofs.Ythlejmpeigfdgaa
