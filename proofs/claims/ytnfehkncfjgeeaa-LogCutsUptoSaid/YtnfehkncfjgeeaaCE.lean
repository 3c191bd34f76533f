/- The walk of the law's known: what the document fixes. No condition. · The plain law of logs: what calls make of one, and how the rows go along the operations that it keeps. No program in sight. · The walk of the law's do: one call on a log. Conditions: the step lies in memory that is older than the log; nothing is longer than a million. · A script's steps: loaded whole; which may be played. No condition beyond what the structures say. · The walk of the law's follows. Conditions: the operations and the vectors lie in memory; nothing is longer than a million. · The walks of the law's same and ops at operations that are alike. Conditions: they lie in memory; nothing is longer than a million. · The walk of the law's ops at rows of operations that are alike. Conditions: they lie in memory; nothing is longer than a million. · Two logs side by side: a call on one leaves the other. The plain law of cutting twice. No condition beyond what the structures say. · What LogCuts rests on, beside the walk: two logs, what was kept, the plain law. No condition beyond what the structures say. · The walk of LogCuts: it returns true, whatever the base, the script and the two vectors. Conditions: they lie in memory. -/
import Derived.Test.YtnfehkncfjgeeaaJD
import Derived.Test.YtnfehkncfjgeeaaJB
import Derived.Test.YtnfehkncfjgeeaaJC
import Derived.Test.YtnfehkncfjgeeaaVCan
import Derived.Test.YtnfehkncfjgeeaaOCheck
import Derived.Test.YtnfehkncfjgeeaaVRLat
import Derived.Test.YtnfehkncfjgeeaaVRCov
import Derived.Test.YtnfehkncfjgeeaaOEq
import Derived.Test.YtnfehkncfjgeeaaJA
import Derived.Test.YtnfehkncfjgeeaaVRCheck
import Derived.Test.YtnfehkncfjgeeaaVGet
namespace Go.Proofs.Ytnfehkncfjgeeaa
open Go Go.RowKit

theorem dots_new1 (w : World) (a b : Int) (T : TypeId) : DotsAt (w.alloc (.cells #[.int .i64 a, .int .i64 b] T)) (some ⟨w.heap.size, 0, none⟩) [⟨a, b⟩] := fun k hk => by
  obtain rfl : k = 0 := by simp at hk; omega
  exact ⟨_, rfl, (Box.new w T #[.int .i64 a, .int .i64 b]).cell 0, (Box.new w T #[.int .i64 a, .int .i64 b]).cell 1⟩
/-- A log that was made since w, in memory that is not older. -/
structure LogOf (w : World) (p : Nat) (L : Lg) (W : World) : Prop where
  l : LogAt W p L
  k : Kept (fun _ => False) w W
  ge : w.heap.size ≤ p
  ov : ∀ k, L.oV.ownBlock = some k → w.heap.size ≤ k
section
variable {w W W' : World} {p : Nat} {L L' : Lg}
theorem LogOf.fresh (h : LogOf w p L W) (hk : Kept (fun _ => False) W W') : LogOf w p L W' := ⟨h.l.fresh hk, h.k.trans hk fun _ _ e => e, h.ge, h.ov⟩
theorem LogOf.turn (h : LogOf w p L W) (hl : LogAt W' p L') (hk : Kept (fun k => k = p ∨ L.oV.ownBlock = some k) W W') (hg : Goes W L.oV L'.oV) : LogOf w p L' W' := by
  refine ⟨hl, h.k.trans hk fun k hk e => ?_, h.ge, fun k e => ?_⟩
  · rcases e with rfl | e
    · have := h.ge; omega
    · have := h.ov k e; omega
  · rcases hg k e with e | e
    · exact h.ov k e
    · exact Nat.le_trans h.k.size e
theorem LogOf.made (hl : LogAt W p L) (hk : Kept (fun _ => False) w W) (hg : w.heap.size ≤ p) (hA : L.oA = none) : LogOf w p L W := ⟨hl, hk, hg, fun k e => by unfold Lg.oV at e; rw [hA] at e; cases e⟩
end
def opA : Opr := ⟨⟨1, 6⟩, [⟨1, 5⟩], 4, ⟨0, 0⟩, ⟨0, 0⟩, ⟨#[]⟩, [], 0⟩
def opB : Opr := ⟨⟨1, 8⟩, [⟨1, 7⟩], 4, ⟨0, 0⟩, ⟨0, 0⟩, ⟨#[]⟩, [], 0⟩
def opC : Opr := ⟨⟨0, 0⟩, [], 0, ⟨0, 0⟩, ⟨0, 0⟩, ⟨#[]⟩, [], 0⟩
theorem opA_ok : okOp opA = true := by kernel_rfl
theorem opB_ok : okOp opB = true := by kernel_rfl
theorem opC_ok : okOp opC = false := by kernel_rfl
theorem kn1 : checkV [⟨1, 5⟩] = 0 := by kernel_rfl
theorem kn2 : addE [⟨1, 5⟩] ⟨1, 6⟩ = 0 ∧ coversR (says [⟨1, 5⟩]) (says [⟨1, 5⟩]) = true ∧ addV [⟨1, 5⟩] ⟨1, 6⟩ = [⟨1, 6⟩] := ⟨by kernel_rfl, by kernel_rfl, by kernel_rfl⟩
theorem kn3 : addE [⟨1, 6⟩] ⟨1, 8⟩ = 9 := by kernel_rfl
theorem kn4 : hasV [⟨1, 5⟩] ⟨1, 6⟩ = false ∧ hasV [⟨1, 6⟩] ⟨1, 6⟩ = true := ⟨by kernel_rfl, by kernel_rfl⟩
theorem kn5 : checkV [⟨1, 6⟩] = 0 ∧ coversR (says [⟨1, 6⟩]) (says [⟨1, 6⟩]) = true ∧ vec (maxR (says [⟨1, 5⟩]) (says [⟨1, 6⟩])) = [⟨1, 6⟩] := ⟨by kernel_rfl, by kernel_rfl, by kernel_rfl⟩
theorem small_of {o : Opr} (h1 : o.gone = []) (h2 : o.deps.length ≤ 1) (h3 : o.text = ⟨#[]⟩) : o.Small := ⟨fun r hr => absurd (h1 ▸ hr) (by simp), by omega, by rw [h1]; simp, by rw [h3]; decide⟩
theorem opA_small : opA.Small := small_of rfl (by decide) rfl
theorem opB_small : opB.Small := small_of rfl (by decide) rfl
theorem opC_small : opC.Small := small_of rfl (by decide) rfl

set_option maxRecDepth 100000 in
set_option maxHeartbeats 3200000 in
theorem known_any (w : World) : Calls Try.prog 11 #[] w (BoolPost w true) := by
  have hd1 := Lib.hid (dots_new1 w 1 5 28)
  go_enter Try.func11, Try.ntmps11
  go_wp2_with (fail)
  have HK0 := Lib.hid ((Kept.refl (fun _ => False) w).alloc (.cells #[.int .i64 1, .int .i64 5] 28))
  refine (New_any _ [⟨1, 5⟩] 1 _ hd1.out (by decide)).mono ?_
  rintro e w1 (⟨-, p, L0, rfl, hl, hb, ha, ho, hoA, hge, hk⟩ | ⟨h, -⟩)
  rotate_left
  · exact absurd kn1 h
  have HL0 := Lib.hid (LogOf.made hl (HK0.out.trans hk fun _ _ e => e) (Nat.le_trans HK0.out.size hge) hoA)
  have HB0 := Lib.hid hb
  have HA0 := Lib.hid ha
  have HO0 := Lib.hid ho
  clear hl hb ha ho hoA hge hk HK0 hd1
  go_wp2_with (fail)
  have HX1 := Lib.hid (dots_new1 w1 1 5 28)
  have HL1 := Lib.hid (HL0.out.fresh ((Kept.refl _ _).alloc (.cells #[.int .i64 1, .int .i64 5] 28)))
  have hE1 : addErr L0 opA = 0 := by
    unfold addErr
    rw [opA_ok, HA0.out, if_neg (by decide), if_neg]
    intro h
    rcases h with h | h
    · exact h kn2.1
    · exact absurd (h.symm.trans kn2.2.1) (by decide)
  generalize w1.alloc (.cells #[.int .i64 1, .int .i64 5] 28) = w2 at HX1 HL1 ⊢
  clear HL0
  have hadd := LogAdd_any p L0 ⟨opA, some ⟨w1.heap.size, 0, none⟩, 1, none, 0⟩ w2 HL1.out.l ⟨HX1.out, RunsAt.nil⟩ opA_small (by rw [HO0.out]; decide)
  simp only [hE1, if_true] at hadd
  refine hadd.mono ?_
  rintro e w3 ⟨L1, y, rfl, hb1, ha1, ho1, hyo, hl1, hk1, hg1⟩
  have HL3 := Lib.hid (HL1.out.turn hl1 hk1 hg1)
  have HA1 := Lib.hid (show L1.all = [⟨1, 6⟩] by rw [ha1, HA0.out]; exact kn2.2.2)
  have HB1 := Lib.hid (show L1.base = [⟨1, 5⟩] by rw [hb1, HB0.out])
  have HO1 := Lib.hid (show L1.ops = [y] by rw [ho1, HO0.out]; rfl)
  have HY := Lib.hid (show y.o = opA from hyo)
  clear hb1 ha1 ho1 hyo hl1 hk1 hg1 hadd HX1 HL1 hE1 HA0 HB0 HO0
  go_wp2_with (fail)
  have HX1 := Lib.hid (dots_new1 w3 1 7 28)
  have HL4 := Lib.hid (HL3.out.fresh ((Kept.refl _ _).alloc (.cells #[.int .i64 1, .int .i64 7] 28)))
  have hE2 : addErr L1 opB = 9 := by
    unfold addErr
    rw [opB_ok, HA1.out, if_neg (by decide), if_pos (.inl (by rw [show opB.dot = ⟨1, 8⟩ from rfl, kn3]; decide))]
  generalize w3.alloc (.cells #[.int .i64 1, .int .i64 7] 28) = w4 at HX1 HL4 ⊢
  clear HL3
  have hadd := LogAdd_any p L1 ⟨opB, some ⟨w3.heap.size, 0, none⟩, 1, none, 0⟩ w4 HL4.out.l ⟨HX1.out, RunsAt.nil⟩ opB_small (by rw [HO1.out]; simp)
  refine hadd.mono fun e w5 h => ?_
  rw [hE2, if_neg (by decide)] at h
  unfold IntPost at h
  obtain ⟨rfl, hk5⟩ := h
  have HL5 := Lib.hid (HL4.out.fresh hk5)
  clear hadd HX1 HL4 hE2 hk5
  go_wp2_with (fail)
  have hE3 : addErr L1 opC = 10 := by
    unfold addErr
    rw [opC_ok, if_pos rfl]
  have hadd := LogAdd_any p L1 ⟨opC, none, 0, none, 0⟩ w5 HL5.out.l ⟨DotsAt.nil, RunsAt.nil⟩ opC_small (by rw [HO1.out]; simp)
  refine hadd.mono fun e w6 h => ?_
  rw [hE3, if_neg (by decide)] at h
  unfold IntPost at h
  obtain ⟨rfl, hk6⟩ := h
  have HL6 := Lib.hid (HL5.out.fresh hk6)
  clear hadd HL5 hE3 hk6
  go_wp2_with (fail)
  have HX1 := Lib.hid (dots_new1 w6 1 5 28)
  have HL7 := Lib.hid (HL6.out.fresh ((Kept.refl _ _).alloc (.cells #[.int .i64 1, .int .i64 5] 28)))
  generalize w6.alloc (.cells #[.int .i64 1, .int .i64 5] 28) = w7 at HX1 HL7 ⊢
  clear HL6
  have hlk : lacks [⟨1, 5⟩] L1.ops = [y] := by
    unfold lacks
    rw [if_pos kn1, HO1.out, List.filter_cons_of_pos]
    · rfl
    · rw [HY.out]; simp [opA, kn4.1]
  have hla := Lacks_of (.pointer (some ⟨p, 0, none⟩)) (some ⟨w6.heap.size, 0, none⟩) [⟨1, 5⟩] 1 w7 (lacks [⟨1, 5⟩] L1.ops) fun W hk => Beyond_any p L1 _ [⟨1, 5⟩] 1 W (HL7.out.l.fresh hk) (HX1.out.fresh hk) (by decide)
  rw [hlk] at hla
  refine hla.mono ?_
  unfold IntPost
  rintro e w8 ⟨rfl, hk8⟩
  have HL8 := Lib.hid (HL7.out.fresh hk8)
  clear hla hlk HX1 HL7 hk8
  go_wp2_with (fail)
  have HX1 := Lib.hid (dots_new1 w8 1 6 28)
  have HL9 := Lib.hid (HL8.out.fresh ((Kept.refl _ _).alloc (.cells #[.int .i64 1, .int .i64 6] 28)))
  have HOV := Lib.hid (fun k (hk : L1.oV.ownBlock = some k) => (HL8.out.l.o.lt k hk).2)
  generalize w8.alloc (.cells #[.int .i64 1, .int .i64 6] 28) = w9 at HX1 HL9 ⊢
  clear HL8
  have hcu := Cut_yes p L1 (some ⟨w8.heap.size, 0, none⟩) [⟨1, 6⟩] 1 w9 HL9.out.l HX1.out (by decide) (fun _ a ha e => by injection ha with ha; subst ha; exact Nat.lt_irrefl _ (HOV.out _ e))
    (by unfold cutErr; rw [HA1.out, if_neg (by rw [kn5.1]; simp), if_neg (by rw [kn5.2.1]; simp)])
  refine hcu.mono ?_
  rintro e w10 ⟨L2, gs, A, c, rfl, hgo, hgr, hlan, hl2, hb2, ha2, ho2, hk2, hg2⟩
  have HL10 := Lib.hid (HL9.out.turn hl2 hk2 hg2)
  have HB2 := Lib.hid (show L2.base = [⟨1, 6⟩] by rw [hb2, HB1.out]; exact kn5.2.2)
  have HO2 := Lib.hid (show L2.ops = [] by
    rw [ho2, HO1.out, List.filter_cons_of_neg]
    · rfl
    · rw [HY.out]; simp [opA, kn4.2])
  have hgl : gs.length = 1 := by
    have := congrArg List.length hgo
    simp only [List.length_map] at this
    rw [this, HO1.out, List.filter_cons_of_pos]
    · rfl
    · rw [HY.out]; exact kn4.2
  rw [hgl]
  clear hgo hgr hlan hl2 hb2 ha2 ho2 hk2 hg2 hcu HX1 HL9 HOV HA1 HB1 HO1 HY hgl
  go_wp2_with (fail)
  refine (Len_any p L2 w10 HL10.out.l).mono ?_
  unfold IntPost
  rw [HO2.out]
  rintro e w11 ⟨rfl, hk11⟩
  have HL11 := Lib.hid (HL10.out.fresh hk11)
  clear hk11 HL10
  go_wp2_with (fail)
  refine (Base_any p L2 w11 HL11.out.l).mono ?_
  rw [HB2.out]
  rintro e w12 hf
  obtain ⟨A12, c12, rfl, hd12, hk12⟩ := hf.at
  have HL12 := Lib.hid (HL11.out.fresh hk12)
  have HD12 := Lib.hid hd12
  clear hf hd12 hk12 HL11
  go_wp2_with (fail)
  have HK13 := Lib.hid ((Kept.refl (fun _ => False) w12).alloc (.cells #[.int .i64 1, .int .i64 6] 28))
  refine (vectors_any A12 (some ⟨w12.heap.size, 0, none⟩) [⟨1, 6⟩] [⟨1, 6⟩] c12 1 _ (HD12.out.fresh HK13.out) (dots_new1 w12 1 6 28) (by decide)).mono ?_
  unfold SamePost
  rw [decide_eq_true rfl]
  rintro e w14 ⟨rfl, hk14⟩
  have HK := Lib.hid ((HL12.out.fresh HK13.out).fresh hk14).k
  go_wp2
  go_ret
  exact ⟨rfl, HK.out⟩
end Go.Proofs.Ytnfehkncfjgeeaa

namespace Go.Proofs.Ytnfehkncfjgeeaa
open Go

structure Pl where
  base : List Dt
  all : List Dt
  ops : List Opr
def Pl.addErr (P : Pl) (o : Opr) : Int := if okOp o = false then 10 else if addE P.all o.dot ≠ 0 ∨ coversR (says P.all) (says o.deps) = false then 9 else 0
def Pl.add (P : Pl) (o : Opr) : Pl := if P.addErr o = 0 then ⟨P.base, addV P.all o.dot, P.ops ++ [o]⟩ else P
def Pl.cutErr (P : Pl) (hv : List Dt) : Int := if checkV hv ≠ 0 then checkV hv else if coversR (says P.all) (says hv) = false then 9 else 0
def Pl.cut (P : Pl) (hv : List Dt) : Pl := if P.cutErr hv = 0 then ⟨vec (maxR (says P.base) (says hv)), P.all, P.ops.filter fun o => !hasV hv o.dot⟩ else P
def Pl.step (P : Pl) (kind : Int) (o : Opr) (v : List Dt) : Pl := if kind = 1 then P.add o else if kind = 3 then P.cut v else P
def Pl.lacks (P : Pl) (hv : List Dt) : List Opr := if checkV hv = 0 then P.ops.filter fun o => !hasV hv o.dot else []

/-- The operation comes next behind row r. -/
structure Nx (r : List Int) (o : Opr) : Prop where
  s1 : 1 ≤ o.dot.site
  s2 : o.dot.site ≤ 16
  q1 : 1 ≤ o.dot.seq
  q2 : o.dot.seq ≤ 2147483647
  next : o.dot.seq = rg r o.dot.site.toNat + 1
  cov : coversR r (says o.deps) = true
def put1 (r : List Int) (o : Opr) : List Int := r.set o.dot.site.toNat o.dot.seq
def Path (r : List Int) : List Opr → List Int → Prop
  | [], t => r = t
  | o :: os, t => Nx r o ∧ Path (put1 r o) os t
section
variable {r t u : List Int} {o : Opr} {os : List Opr}
theorem Nx.row (h : Nx r o) (hr : Row r) : Row (put1 r o) := hr.set _ (by have := h.s1; omega) (by have := h.s2; omega) _ (by have := h.q1; omega) h.q2
theorem put1_rg (h : Nx r o) (hr : Row r) (i : Nat) : rg (put1 r o) i = if i = o.dot.site.toNat then o.dot.seq else rg r i := rg_set _ _ _ _ (by rw [hr.len]; have := h.s2; omega)
theorem Path.row : ∀ {os : List Opr} {r t : List Int}, Row r → Path r os t → Row t
  | [], r, t, hr, h => by cases h; exact hr
  | o :: os, r, t, hr, h => Path.row (h.1.row hr) h.2
theorem Nx.up (h : Nx r o) (hr : Row r) : coversR (put1 r o) r = true := (covers_iff _ _).2 fun i _ => by
  rw [put1_rg h hr]
  split
  · rename_i e; subst e; have := h.next; omega
  · omega
theorem Path.cov : ∀ {os : List Opr} {r t : List Int}, Row r → Path r os t → coversR t r = true
  | [], r, t, _, h => by cases h; exact cov_refl
  | o :: os, r, t, hr, h => cov_trans (Path.cov (h.1.row hr) h.2) (h.1.up hr)
theorem sumR_set (r : List Int) (j : Nat) (x : Int) (hj : j < r.length) : ∀ k, sumR (r.set j x) k = sumR r k + if j < k then x - rg r j else 0
  | 0 => by simp [sumR]
  | k + 1 => by
    simp only [sumR, sumR_set r j x hj k, rg_set _ _ _ _ hj]
    by_cases h : k = j
    · subst h
      rw [if_neg (by omega), if_pos rfl, if_pos (by omega)]
      omega
    · rw [if_neg h]
      by_cases h2 : j < k
      · rw [if_pos h2, if_pos (by omega)]; omega
      · rw [if_neg h2, if_neg (by omega)]; omega
theorem Path.sum : ∀ {os : List Opr} {r t : List Int}, Row r → Path r os t → sumR t 17 = sumR r 17 + os.length
  | [], r, t, _, h => by cases h; simp
  | o :: os, r, t, hr, h => by
    rw [Path.sum (h.1.row hr) h.2, put1, sumR_set _ _ _ (by rw [hr.len]; have := h.1.s2; omega), if_pos (by have := h.1.s2; omega), List.length_cons]
    have := h.1.next
    omega
theorem Path.snoc : ∀ {os : List Opr} {r t : List Int}, Path r os t → Nx t o → Path r (os ++ [o]) (put1 t o)
  | [], r, t, h, hn => by cases h; exact ⟨hn, rfl⟩
  | _ :: os, r, t, h, hn => ⟨h.1, Path.snoc h.2 hn⟩
def hasR (u : List Int) (d : Dt) : Bool := decide (1 ≤ d.seq ∧ d.seq ≤ if siteB d.site then rg u d.site.toNat else 0)
theorem hasV_eq (l : List Dt) (d : Dt) : hasV l d = hasR (says l) d := rfl
theorem Nx.has (h : Nx r o) (u : List Int) : hasR u o.dot = decide (o.dot.seq ≤ rg u o.dot.site.toNat) := by
  have hs : siteB o.dot.site = true := by simp [siteB]; exact ⟨h.s1, h.s2⟩
  have := h.q1
  simp [hasR, hs, this]
theorem Path.max (hu : Row u) : ∀ {os : List Opr} {r t : List Int}, Row r → Path r os t → Path (maxR r u) (os.filter fun o => !hasR u o.dot) (maxR t u)
  | [], r, t, _, h => by cases h; rfl
  | o :: os, r, t, hr, h => by
    have ih := Path.max hu (h.1.row hr) h.2
    have hs1 := h.1.s1
    have hs2 := h.1.s2
    have hn := h.1.next
    rw [List.filter_cons, h.1.has u]
    by_cases hq : o.dot.seq ≤ rg u o.dot.site.toNat
    · rw [if_neg (by simp [hq])]
      have e : maxR (put1 r o) u = maxR r u := row_ext (zipR_len ..) (zipR_len ..) fun i hi => by
        rw [rg_max _ _ hi, rg_max _ _ hi, put1_rg h.1 hr]
        split
        · rename_i e; subst e; omega
        · rfl
      rw [← e]
      exact ih
    · rw [if_pos (by simp [hq])]
      have e : maxR (put1 r o) u = put1 (maxR r u) o := row_ext (zipR_len ..) (by unfold put1; rw [List.length_set]; exact zipR_len ..) fun i hi => by
        unfold put1
        rw [rg_max _ _ hi, rg_set _ _ _ _ (by rw [hr.len]; omega), rg_set _ _ _ _ (by unfold maxR; rw [zipR_len]; omega), rg_max _ _ hi]
        split
        · rename_i e; subst e; omega
        · rfl
      refine ⟨⟨hs1, hs2, h.1.q1, h.1.q2, ?_, cov_trans cov_max_l h.1.cov⟩, by rw [← e]; exact ih⟩
      rw [rg_max _ _ (by omega)]
      omega
theorem Path.none : ∀ {os : List Opr} {r t : List Int}, Row r → Path r os t → ∀ o ∈ os, hasR r o.dot = false
  | [], _, _, _, _, o, ho => absurd ho (by simp)
  | o :: os, r, t, hr, h, x, hx => by
    rcases List.mem_cons.1 hx with rfl | hx
    · rw [h.1.has r]
      have := h.1.next
      simp
      omega
    · have := Path.none (h.1.row hr) h.2 x hx
      have hc := (covers_iff _ _).1 (h.1.up hr)
      unfold hasR at this ⊢
      simp only [decide_eq_false_iff_not, not_and, Int.not_le] at this ⊢
      intro h1
      refine Int.lt_of_le_of_lt ?_ (this h1)
      split
      · rename_i hs
        simp [siteB] at hs
        exact hc _ (by omega)
      · omega
theorem Path.has : ∀ {os : List Opr} {r t : List Int}, Row r → Path r os t → ∀ o ∈ os, hasR t o.dot = true
  | [], _, _, _, _, o, ho => absurd ho (by simp)
  | o :: os, r, t, hr, h, x, hx => by
    rcases List.mem_cons.1 hx with rfl | hx
    · rw [h.1.has t]
      have hc := (covers_iff _ _).1 (Path.cov (h.1.row hr) h.2) x.dot.site.toNat (by have := h.1.s2; omega)
      rw [put1_rg h.1 hr, if_pos rfl] at hc
      exact decide_eq_true hc
    · exact Path.has (h.1.row hr) h.2 x hx
end
/-- Does each come behind all that it depends on? -/
def followsB : List Opr → List Dt → List Dt → Bool
  | [], f, t => decide (f = t)
  | o :: os, f, t => if coversR (says f) (says o.deps) = false ∨ hasV f o.dot = true then false else followsB os (vec (maxR (says f) (says [o.dot]))) t
theorem Nx.merge {r : List Int} {o : Opr} (h : Nx r o) (hr : Row r) : maxR r (says [o.dot]) = put1 r o := by
  have hs1 := h.s1
  have hs2 := h.s2
  have hok : okDot o.dot = true := by simp [okDot]; exact ⟨h.s1, h.s2, h.q1, h.q2⟩
  refine row_ext (zipR_len ..) (by unfold put1; rw [List.length_set]; exact hr.len) fun i hi => ?_
  rw [rg_max _ _ hi, put1_rg h hr]
  have e : says [o.dot] = lay row0 o.dot := rfl
  rw [e, rg_lay rfl, rg_row0]
  have hb := hr.bd i
  by_cases hi2 : i = o.dot.site.toNat
  · subst hi2
    rw [if_pos ⟨hok, by omega⟩, if_pos rfl]
    have := h.next
    have := h.q1
    omega
  · rw [if_neg hi2, if_neg (by rintro ⟨_, e⟩; omega)]
    omega
theorem Path.follows : ∀ {os : List Opr} {r t : List Int}, Row r → Path r os t → followsB os (vec r) (vec t) = true
  | [], r, t, _, h => by cases h; simp [followsB]
  | o :: os, r, t, hr, h => by
    have hh := Path.none hr h o (by simp)
    rw [followsB, says_vec hr, hasV_eq, says_vec hr, if_neg (by rw [h.1.cov, hh]; simp), h.1.merge hr]
    exact Path.follows (h.1.row hr) h.2
theorem max_of_cov {r s : List Int} (hr : r.length = 17) (h : coversR r s = true) : maxR r s = r := of_decide_eq_true (by rw [← covers_max hr]; exact h)
/-- A log that was made by New and calls. -/
structure Pl.Good (P : Pl) : Prop where
  bc : checkV P.base = 0
  ac : checkV P.all = 0
  path : Path (says P.base) P.ops (says P.all)
section
variable {P : Pl} {o : Opr} {hv : List Dt}
theorem Pl.Good.new (h : checkV hv = 0) : Pl.Good ⟨hv, hv, []⟩ := ⟨h, h, rfl⟩
theorem okOp_dot (h : okOp o = true) : 1 ≤ o.dot.site ∧ o.dot.site ≤ 16 ∧ 1 ≤ o.dot.seq ∧ o.dot.seq ≤ 2147483647 := by
  unfold okOp at h
  simp only [Bool.and_eq_true, decide_eq_true_eq] at h
  exact h.1.1.1
theorem Pl.Good.add (h : P.Good) (o : Opr) : (P.add o).Good := by
  unfold Pl.add
  split
  · rename_i he
    unfold Pl.addErr at he
    by_cases h1 : okOp o = false
    · rw [if_pos h1] at he; simp at he
    · rw [if_neg h1] at he
      by_cases h2 : addE P.all o.dot ≠ 0 ∨ coversR (says P.all) (says o.deps) = false
      · rw [if_pos h2] at he; simp at he
      · have h3 : addE P.all o.dot = 0 := by
          rcases Classical.em (addE P.all o.dot = 0) with e | e
          · exact e
          · exact absurd (.inl e) h2
        have h4 : coversR (says P.all) (says o.deps) = true := by
          cases hc : coversR (says P.all) (says o.deps) with
          | true => rfl
          | false => exact absurd (.inr hc) h2
        obtain ⟨d1, d2, d3, d4⟩ := okOp_dot (show okOp o = true by simpa using h1)
        have hs : siteB o.dot.site = true := by simp [siteB]; exact ⟨d1, d2⟩
        have hq : o.dot.seq = rg (says P.all) o.dot.site.toNat + 1 := by
          unfold addE at h3
          rw [if_neg (by simp [hs]; omega), if_neg (by omega)] at h3
          unfold getV at h3
          rw [if_pos hs] at h3
          by_cases e : o.dot.seq ≠ rg (says P.all) o.dot.site.toNat + 1
          · rw [if_pos e] at h3; simp at h3
          · omega
        have hn : Nx (says P.all) o := ⟨d1, d2, d3, d4, hq, h4⟩
        have hrow := hn.row (Row.says P.all)
        have e : addV P.all o.dot = vec (put1 (says P.all) o) := if_pos h3
        refine ⟨h.bc, ?_, ?_⟩
        · rw [e]; exact check_vec hrow
        · simp only [e, says_vec hrow]
          exact h.path.snoc hn
  · exact h
theorem Pl.Good.cut (h : P.Good) (hv : List Dt) : (P.cut hv).Good := by
  unfold Pl.cut
  split
  · rename_i he
    unfold Pl.cutErr at he
    by_cases h1 : checkV hv ≠ 0
    · rw [if_pos h1] at he; exact absurd he h1
    · rw [if_neg h1] at he
      have h2 : coversR (says P.all) (says hv) = true := by
        cases hc : coversR (says P.all) (says hv) with
        | true => rfl
        | false => rw [hc] at he; simp at he
      have hrow := (Row.says P.base).maxR (Row.says hv)
      refine ⟨check_vec hrow, h.ac, ?_⟩
      simp only [says_vec hrow]
      have := Path.max (Row.says hv) (Row.says P.base) h.path
      rw [max_of_cov (Row.says P.all).len h2] at this
      exact this
  · exact h
theorem Pl.Good.step (h : P.Good) (kind : Int) (o : Opr) (v : List Dt) : (P.step kind o v).Good := by
  unfold Pl.step
  split
  · exact h.add o
  · split
    · exact h.cut v
    · exact h
theorem Pl.add_len (P : Pl) (o : Opr) : (P.add o).ops.length ≤ P.ops.length + 1 := by
  unfold Pl.add
  split
  · simp
  · simp
theorem Pl.step_len (P : Pl) (kind : Int) (o : Opr) (v : List Dt) : (P.step kind o v).ops.length ≤ P.ops.length + 1 := by
  unfold Pl.step
  split
  · exact P.add_len o
  · split
    · unfold Pl.cut
      split
      · exact Nat.le_succ_of_le (List.length_filter_le _ _)
      · omega
    · omega
/-- What the law looks at behind each call. -/
theorem Pl.Good.looks (h : P.Good) : coversR (says P.all) (says P.base) = true ∧ sumR (says P.all) 17 = sumR (says P.base) 17 + P.ops.length ∧ P.lacks P.base = P.ops ∧ P.lacks P.all = [] ∧ followsB P.ops P.base P.all = true := by
  have hr := Row.says P.base
  refine ⟨h.path.cov hr, h.path.sum hr, ?_, ?_, ?_⟩
  · unfold Pl.lacks
    rw [if_pos h.bc, List.filter_eq_self]
    intro o ho
    rw [hasV_eq, h.path.none hr o ho]
    rfl
  · unfold Pl.lacks
    rw [if_pos h.ac, List.filter_eq_nil_iff]
    intro o ho
    rw [hasV_eq, h.path.has hr o ho]
    simp
  · have := h.path.follows hr
    rwa [vec_says h.bc, vec_says h.ac] at this
/-- And of what is beyond any vector. -/
theorem Pl.Good.beyond (h : P.Good) (hc : checkV hv = 0) : followsB (P.lacks hv) (vec (maxR (says hv) (says P.base))) (vec (maxR (says (vec (maxR (says hv) (says P.base)))) (says P.all))) = true := by
  have hr := Row.says P.base
  have hu := Row.says hv
  have hm := hu.maxR hr
  have hp := Path.max hu hr h.path
  have e : maxR (says (vec (maxR (says hv) (says P.base)))) (says P.all) = maxR (says P.all) (says hv) := by
    rw [says_vec hm, max_assoc', max_comm' (a := says P.base), max_of_cov (Row.says P.all).len (h.path.cov hr), max_comm']
  unfold Pl.lacks
  rw [if_pos hc, e, max_comm' (a := says hv)]
  exact hp.follows (hr.maxR hu)
end
end Go.Proofs.Ytnfehkncfjgeeaa

namespace Go.Proofs.Ytnfehkncfjgeeaa
open Go Go.RowKit

def Lg.d (L : Lg) : Pl := ⟨L.base, L.all, L.ops.map (·.o)⟩
def Stp.c (s : Stp) : Array Value := #[.int .i64 s.kind, .int .i64 s.x.o.dot.site, .int .i64 s.x.o.dot.seq, .slice s.x.dA s.x.o.deps.length s.x.dc, .int .i64 s.x.o.kind, .int .i64 s.x.o.id.time, .int .i64 s.x.o.id.site, .int .i64 s.x.o.ref.time, .int .i64 s.x.o.ref.site, .string s.x.o.text, .slice s.x.gA s.x.o.gone.length s.x.gc, .int .i64 s.x.o.site, .slice s.vA s.v.length s.vc]
theorem step_range {w : World} {g : Nat} {t : TypeId} {s : Stp} (h : Box w g t s.c) : w.rangeAt g 1 s.x.c.toList := fun j v hj => by
  have hj' : j < 11 := by
    have := (List.getElem?_eq_some_iff.1 hj).1
    rwa [Array.length_toList, Lop.c_size] at this
  rw [← hj]
  match j, hj' with
  | 0, _ => exact h.cell 1
  | 1, _ => exact h.cell 2
  | 2, _ => exact h.cell 3
  | 3, _ => exact h.cell 4
  | 4, _ => exact h.cell 5
  | 5, _ => exact h.cell 6
  | 6, _ => exact h.cell 7
  | 7, _ => exact h.cell 8
  | 8, _ => exact h.cell 9
  | 9, _ => exact h.cell 10
  | 10, _ => exact h.cell 11
/-- A step that may be played. -/
structure StepOk (w : World) (s : Stp) : Prop where
  x : s.x.At w
  v : DotsAt w s.vA s.v
  small : s.x.o.Small
  vl : s.v.length ≤ 1000000
theorem dots_lt {w : World} {A : Option Addr} {l : List Dt} (h : DotsAt w A l) (hne : 0 < l.length) : ∀ a, A = some a → a.block < w.heap.size := by
  rintro a rfl
  obtain ⟨ad, e, x0, _⟩ := h 0 hne
  injection e with e
  subst e
  have := World.block_lt_of_cell? w _ x0
  rwa [add_block] at this
theorem StepOk.fresh {w w' : World} {s : Stp} (h : StepOk w s) (hk : Kept (fun _ => False) w w') : StepOk w' s := ⟨h.x.fresh hk, h.v.fresh hk, h.small, h.vl⟩
def DoPost (w : World) (p : Nat) (L : Lg) (P : Pl) (W : World) (e : Ending) (W' : World) : Prop :=
  (∃ v, e = .returned v) ∧ ∃ L' : Lg, L'.d = P ∧ LogOf w p L' W' ∧ Kept (fun k => k = p ∨ L.oV.ownBlock = some k) W W' ∧ Goes W L.oV L'.oV
theorem lops_filter (l : List Lop) (f : Opr → Bool) : (l.filter fun x => f x.o).map (·.o) = (l.map (·.o)).filter f := by
  induction l with
  | nil => rfl
  | cons x l ih =>
    simp only [List.filter_cons, List.map_cons]
    split
    · rw [List.map_cons, ih]
    · exact ih

set_option maxRecDepth 100000 in
set_option maxHeartbeats 3200000 in
theorem do_any (w W : World) (p : Nat) (L : Lg) (s : Stp) (h : LogOf w p L W) (hs : StepOk w s) (hl : L.ops.length < 1000000) :
    Calls Try.prog 31 #[.pointer (some ⟨p, 0, none⟩), .agg s.c] W (DoPost w p L (L.d.step s.kind s.x.o s.v) W) := by
  have hk0 : Kept (fun _ => False) W (W.alloc (.cells s.c 47)) := (Kept.refl _ _).alloc _
  have HK0 := Lib.hid hk0
  have HL := Lib.hid (h.fresh hk0)
  have HGO := Lib.hid (fun (W' : World) (L' : Lg) (hg : Goes (W.alloc (.cells s.c 47)) L.oV L'.oV) => show Goes W L.oV L'.oV from fun k hk => (hg k hk).imp_right fun e => Nat.le_trans hk0.size e)
  have HS := Lib.hid (hs.fresh (h.k.trans hk0 fun _ _ e => e))
  have HB := Lib.hid (Box.new W 47 s.c)
  have HRG := Lib.hid (step_range (Box.new W 47 s.c))
  have HVB := Lib.hid (show 0 < s.v.length → ∀ a, s.vA = some a → L.oV.ownBlock ≠ some a.block from fun h0 a ha e => by have := dots_lt hs.v h0 a ha; have := h.ov _ e; omega)
  have c0 := HB.out.cell 0
  have c12 := HB.out.cell 12
  simp only [Stp.c, List.getElem?_toArray, List.getElem?_cons_succ, List.getElem?_cons_zero] at c0 c12
  obtain ⟨kind, x, vA, vc, v⟩ := s
  simp only at HL HS HRG HVB c0 c12 ⊢
  obtain ⟨cs, hcs⟩ : ∃ cs, x.c = cs := ⟨_, rfl⟩
  have HCS := Lib.hid hcs
  have HSZ := Lib.hid (show cs.size = 11 by rw [← hcs]; rfl)
  rw [hcs] at HRG
  clear hk0 h hs hcs HB
  unfold Stp.c at *
  simp only at *
  go_enter Try.func31, Try.ntmps31
  unfold Pl.step
  by_cases h1 : kind = 1
  · subst h1
    rw [if_pos rfl]
    go_wp2_with (refine load_step rfl _ rfl W.heap.size 1 rfl cs HSZ.out HRG.out ?_)
    have hadd := LogAdd_any p L x _ HL.out.l HS.out.x HS.out.small hl
    rw [HCS.out] at hadd
    refine hadd.mono fun e W' he => ?_
    have he' : ∃ n, e = .returned (.int .i64 n) := by
      by_cases hz : addErr L x.o = 0
      · rw [if_pos hz] at he
        obtain ⟨L', y, rfl, _⟩ := he
        exact ⟨_, rfl⟩
      · rw [if_neg hz] at he
        exact ⟨_, he.1⟩
    have hD : ∃ L' : Lg, L'.d = L.d.add x.o ∧ LogOf w p L' W' ∧ Kept (fun k => k = p ∨ L.oV.ownBlock = some k) W W' ∧ Goes W L.oV L'.oV := by
      unfold Pl.add
      have hee : L.d.addErr x.o = addErr L x.o := rfl
      rw [hee]
      by_cases hz : addErr L x.o = 0
      · rw [if_pos hz] at he ⊢
        obtain ⟨L', y, _, hb, ha, ho, hyo, hl', hk, hg⟩ := he
        refine ⟨L', ?_, HL.out.turn hl' hk hg, (HK0.out.more fun _ _ e => e.elim).trans hk fun _ _ e => e, HGO.out W' L' hg⟩
        unfold Lg.d
        rw [hb, ha, ho, List.map_append]
        simp [hyo]
      · rw [if_neg hz] at he ⊢
        refine ⟨L, rfl, HL.out.fresh he.2, (HK0.out.more fun _ _ e => e.elim).trans he.2 fun _ _ e => e.elim, fun k hk => .inl hk⟩
    have HD := Lib.hid hD
    obtain ⟨n, rfl⟩ := he'
    clear hadd he hD
    go_wp2
    go_end0
    exact ⟨⟨_, rfl⟩, HD.out⟩
  · rw [if_neg h1]
    by_cases h3 : kind = 3
    · subst h3
      rw [if_pos rfl]
      go_wp2_with (fail)
      generalize W.alloc (.cells #[.int .i64 3, .int .i64 x.o.dot.site, .int .i64 x.o.dot.seq, .slice x.dA x.o.deps.length x.dc, .int .i64 x.o.kind, .int .i64 x.o.id.time, .int .i64 x.o.id.site, .int .i64 x.o.ref.time, .int .i64 x.o.ref.site, .string x.o.text, .slice x.gA x.o.gone.length x.gc, .int .i64 x.o.site, .slice vA v.length vc] 47) = W1 at HK0 HL HGO HS HRG ⊢
      have hcu : ∀ e W', (if cutErr L v = 0 then CutPost W1 p L v e W' else RefPost W1 (cutErr L v) e W') → (∃ A k c n, e = .returned (.tuple #[.slice A k c, .int .i64 n])) ∧ ∃ L' : Lg, L'.d = L.d.cut v ∧ LogOf w p L' W' ∧ Kept (fun k => k = p ∨ L.oV.ownBlock = some k) W W' ∧ Goes W L.oV L'.oV := fun e W' he => by
        unfold Pl.cut
        have hee : L.d.cutErr v = cutErr L v := rfl
        rw [hee]
        by_cases hz : cutErr L v = 0
        · rw [if_pos hz] at he ⊢
          obtain ⟨L', gs, A, c, rfl, _, _, _, hl', hb, ha, ho, hk, hg⟩ := he
          refine ⟨⟨A, _, c, _, rfl⟩, L', ?_, HL.out.turn hl' hk hg, (HK0.out.more fun _ _ e => e.elim).trans hk fun _ _ e => e, HGO.out W' L' hg⟩
          unfold Lg.d
          rw [hb, ha, ho]
          exact congrArg (Pl.mk _ _) (lops_filter L.ops fun o => !hasV v o.dot)
        · rw [if_neg hz] at he ⊢
          exact ⟨⟨_, _, _, _, he.1⟩, L, rfl, HL.out.fresh he.2, (HK0.out.more fun _ _ e => e.elim).trans he.2 fun _ _ e => e.elim, fun k hk => .inl hk⟩
      have HCU := Lib.hid hcu
      clear hcu
      have hcall : Calls Try.prog 18 #[.pointer (some ⟨p, 0, none⟩), .slice vA v.length vc] W1 fun e W' => (if cutErr L v = 0 then CutPost W1 p L v e W' else RefPost W1 (cutErr L v) e W') := by
        by_cases hz : cutErr L v = 0
        · simp only [if_pos hz]
          exact Cut_yes p L vA v vc _ HL.out.l HS.out.v HS.out.vl HVB.out hz
        · simp only [if_neg hz]
          exact Cut_no p L vA v vc _ HL.out.l HS.out.v HS.out.vl hz
      refine hcall.mono fun e W' he => ?_
      obtain ⟨⟨A, k, c, n, rfl⟩, hD⟩ := HCU.out e W' he
      have HD := Lib.hid hD
      clear hcall he hD
      go_wp2
      go_end0
      exact ⟨⟨_, rfl⟩, HD.out⟩
    · rw [if_neg h3]
      have e1 : (kind == 1) = false := beq_eq_false_iff_ne.mpr h1
      have e3 : (kind == 3) = false := beq_eq_false_iff_ne.mpr h3
      go_wp2
      go_end0
      exact ⟨⟨_, rfl⟩, L, rfl, HL.out, HK0.out.more fun _ _ e => e.elim, fun k hk => .inl hk⟩
end Go.Proofs.Ytnfehkncfjgeeaa

namespace Go.Proofs.Ytnfehkncfjgeeaa
open Go Go.RowKit

theorem und_step : ∃ d, Try.prog.underlying 47 = some d ∧ d.isRow = true := ⟨.struct (Try.prog.fieldsOf 47), by kernel_rfl, rfl⟩
theorem size_step : (Try.prog.info? 47).map (·.size) = some 13 := by kernel_rfl
theorem cell_spot {w : World} {q : Addr} {v : Value} (h : w.cell? q = some v) : q = ⟨q.block, q.off, none⟩ := by
  obtain ⟨b, o, s⟩ := q
  cases s with
  | none => rfl
  | some x =>
    unfold World.cell? at h
    simp only [Option.isSome_some, if_true] at h
    split at h <;> cases h
theorem load_stp {w : World} {ops : Array Oper} {rest : List Oper} {o : Oper} {a : Act} {Q : Exit → Act → World → Prop} (hgd : o.guard = none) (x : Operand) (ho : o.op = .load 47 x) (q : Addr) (hx : a.eval x = .pointer (some q)) (s : Stp)
    (h0 : w.cell? q = some (.int .i64 s.kind)) (h1 : w.rangeAt q.block (q.off + 1) s.x.c.toList) (h2 : w.cell? ⟨q.block, q.off + 12, none⟩ = some (.slice s.vA s.v.length s.vc))
    (h : wpList Try.prog ops Q rest (a.put o.dst (.agg s.c)) w) : wpList Try.prog ops Q (o :: rest) a w := by
  have hq := cell_spot h0
  obtain ⟨b, f, sp⟩ := q
  injection hq with _ _ hsp
  subst hsp
  obtain ⟨d, hu, hd⟩ := und_step
  refine wpList_load_mid hgd _ x ho b f hx s.c.toList d (fun j v hj => ?_) hu hd size_step ?_
  · have hj' : j < 13 := by
      have := (List.getElem?_eq_some_iff.1 hj).1
      simpa [Stp.c] using this
    have hr : ∀ i v, s.x.c.toList[i]? = some v → w.cell? ⟨b, f + (1 + i), none⟩ = some v := fun i v hi => by rw [← Nat.add_assoc]; exact h1 i v hi
    match j, hj' with
    | 0, _ => rw [← hj]; exact h0
    | 1, _ => exact hr 0 v hj
    | 2, _ => exact hr 1 v hj
    | 3, _ => exact hr 2 v hj
    | 4, _ => exact hr 3 v hj
    | 5, _ => exact hr 4 v hj
    | 6, _ => exact hr 5 v hj
    | 7, _ => exact hr 6 v hj
    | 8, _ => exact hr 7 v hj
    | 9, _ => exact hr 8 v hj
    | 10, _ => exact hr 9 v hj
    | 11, _ => exact hr 10 v hj
    | 12, _ => rw [← hj]; exact h2
  · rw [Array.toArray_toList]
    exact h
/-- A script as it is handed in. -/
structure ScrAt (w : World) (A : Option Addr) (l : List Stp) : Prop where
  steps : StepsAt w A l
  xs : ∀ s ∈ l, s.x.At w ∧ (∀ r ∈ s.x.o.gone, inI r.count) ∧ DotsAt w s.vA s.v
theorem ScrAt.ok {w : World} {A : Option Addr} {l : List Stp} {nb : Nat} (h : ScrAt w A l) (hm : muchB l nb = false) : (∀ s ∈ l, StepOk w s) ∧ l.length ≤ 200 ∧ nb ≤ 60000 := by
  unfold muchB at hm
  simp only [Bool.or_eq_false_iff, decide_eq_false_iff_not, Nat.not_lt] at hm
  refine ⟨fun s hs => ?_, hm.1.1.1, hm.1.1.2⟩
  have hb : s.big = false := by
    have := hm.1.2
    rw [List.any_eq_false] at this
    simpa using this s hs
  simp only [Stp.big, Bool.or_eq_false_iff, decide_eq_false_iff_not, Nat.not_lt] at hb
  obtain ⟨h1, h2, h3⟩ := h.xs s hs
  exact ⟨h1, h3, ⟨h2, by omega, by omega, by omega⟩, by omega⟩
theorem lacks_d (L : Lg) (hv : List Dt) : (lacks hv L.ops).map (·.o) = L.d.lacks hv := by
  unfold lacks Pl.lacks
  split
  · exact lops_filter L.ops fun o => !hasV hv o.dot
  · rfl
theorem sumR_bd {r : List Int} (hr : Row r) : ∀ k, 0 ≤ sumR r k ∧ sumR r k ≤ (k : Int) * 2147483647
  | 0 => by simp [sumR]
  | k + 1 => by
    have := sumR_bd hr k
    have := hr.bd k
    simp only [sumR]
    omega
end Go.Proofs.Ytnfehkncfjgeeaa

namespace Go.Proofs.Ytnfehkncfjgeeaa
open Go Go.RowKit

theorem row_cell {w : World} {base g n c : Nat} {l : List Lop} (h : w.ownsRow base 45 11 (.slice (some ⟨g, 0, none⟩) n c) n (lops l)) (k : Nat) (hk : k < l.length) (j : Nat) (v : Value) (hv : l[k].c[j]? = some v) : w.cell? ⟨g, k * 11 + j, none⟩ = some v :=
  range_of_row h k hk j v (by rw [Array.getElem?_toList]; exact hv)
/-- In the middle of follows. -/
structure FoAt (w : World) (base : Nat) (A : Option Addr) (c : Nat) (ys : List Lop) (T : Option Addr) (t : List Dt) (F : Option Addr) (f : List Dt) (W : World) : Prop where
  k : Kept (fun _ => False) w W
  row : w.ownsRow base 45 11 (.slice A ys.length c) ys.length (lops ys)
  ats : ∀ y ∈ ys, y.At w
  t : DotsAt w T t
  f : DotsAt W F f
theorem FoAt.fresh {w : World} {base : Nat} {A : Option Addr} {c : Nat} {ys : List Lop} {T : Option Addr} {t : List Dt} {F : Option Addr} {f : List Dt} {W W' : World} (h : FoAt w base A c ys T t F f W) (hk : Kept (fun _ => False) W W') : FoAt w base A c ys T t F f W' :=
  ⟨h.k.trans hk fun _ _ e => e, h.row, h.ats, h.t, h.f.fresh hk⟩
set_option maxRecDepth 100000 in
set_option maxHeartbeats 3200000 in
theorem Follows_walk (base : Nat) (A : Option Addr) (c : Nat) (ys : List Lop) (T : Option Addr) (t : List Dt) (tc : Nat) (F : Option Addr) (f : List Dt) (fc : Nat) (w : World)
    (hrow : w.ownsRow base 45 11 (.slice A ys.length c) ys.length (lops ys)) (hat : ∀ y ∈ ys, y.At w) (hdl : ∀ y ∈ ys, y.o.deps.length ≤ 1000000) (hyl : ys.length ≤ 1000000) (ht : DotsAt w T t) (hf : DotsAt w F f) (hfl : f.length ≤ 1000000) :
    Calls Try.prog 34 #[.slice A ys.length c, .slice F f.length fc, .slice T t.length tc] w (BoolPost w (followsB (ys.map (·.o)) f t)) := by
  have HZ := Lib.hid (show FoAt w base A c ys T t F f w from ⟨Kept.refl _ _, hrow, hat, ht, hf⟩)
  obtain ⟨b, hb⟩ : ∃ b, followsB (ys.map (·.o)) f t = b := ⟨_, rfl⟩
  have HB := Lib.hid hb
  have HDL := Lib.hid hdl
  rw [hb]
  clear hrow hat ht hf hb hdl
  go_enter Try.func34, Try.ntmps34
  go_wp2_with (fail)
  go_loopw [1, 7] (fun Fv i wr => ∃ (k : Nat) (F : Option Addr) (f : List Dt) (fc : Nat), Fv = .slice F f.length fc ∧ i = .int .i64 k ∧ k ≤ ys.length ∧ f.length ≤ 1000000 ∧ followsB ((ys.drop k).map (·.o)) f t = b ∧ FoAt w base A c ys T t F f wr) (fun _ i _ => ys.length - (intOf i).toNat)
  case atStart => exact ⟨0, F, f, fc, rfl, rfl, Nat.zero_le _, hfl, HB.out, HZ.out⟩
  case round =>
    obtain ⟨k, F, f, fc, rfl, rfl, hk, hfl', hfo, hz⟩ := hrel
    have HZ1 := Lib.hid hz
    have HFO := Lib.hid hfo
    clear HZ hz hfo
    by_cases hlt : k < ys.length
    · have hrow := (Kept.own HZ1.out.k HZ1.out.row fun _ _ => id)
      obtain ⟨gr, cap, hv, _⟩ := World.ownsRow.form hrow (by omega)
      injection hv with e1 _ e3
      have HEA := Lib.hid e1
      rw [e1] at hrow
      obtain ⟨y, hy⟩ : ∃ y, ys[k] = y := ⟨_, rfl⟩
      have x0 := row_cell hrow k hlt 0 _ rfl
      have x1 := row_cell hrow k hlt 1 _ rfl
      have x2 := row_cell hrow k hlt 2 _ rfl
      rw [hy] at x0 x1 x2
      have HX := Lib.hid (show ∀ W', Kept (fun _ => False) wr W' → W'.cell? ⟨gr, k * 11, none⟩ = some (.int .i64 y.o.dot.site) ∧ W'.cell? ⟨gr, k * 11 + 1, none⟩ = some (.int .i64 y.o.dot.seq) from fun W' hk' => by
        have hr := row_cell (Kept.own hk' hrow fun _ _ => id) k hlt
        rw [hy] at hr
        exact ⟨hr 0 _ rfl, hr 1 _ rfl⟩)
      have HY := Lib.hid (HZ1.out.ats y (by rw [← hy]; exact List.getElem_mem hlt))
      have hydl := HDL.out y (by rw [← hy]; exact List.getElem_mem hlt)
      have HD := Lib.hid (show (ys.drop k).map (·.o) = y.o :: (ys.drop (k + 1)).map (·.o) by rw [List.drop_eq_getElem_cons hlt, hy]; rfl)
      rw [e1]
      clear e1 e3 hrow hy x0 x1
      go_wp2_with (fail)
      refine (RCovers_any F y.dA f y.o.deps fc y.dc _ HZ1.out.f (HY.out.fresh HZ1.out.k).d (by omega) (by omega)).mono ?_
      unfold BoolPost
      rintro e w2 ⟨rfl, hk2⟩
      have HZ2 := Lib.hid (HZ1.out.fresh hk2)
      have HX2 := Lib.hid (fun W' (h : Kept (fun _ => False) w2 W') => HX.out W' (hk2.trans h fun _ _ e => e))
      have HFS := Lib.hid (show (if coversR (says f) (says y.o.deps) = false ∨ hasV f y.o.dot = true then false else followsB ((ys.drop (k + 1)).map (·.o)) (vec (maxR (says f) (says [y.o.dot]))) t) = b by have := HFO.out; rw [HD.out] at this; exact this)
      clear hk2 HZ1 HX x2 HFO HD HB
      cases hcv : coversR (says f) (says y.o.deps) with
      | false =>
        have HBF := Lib.hid (show b = false by rw [← HFS.out, if_pos (.inl hcv)])
        clear hcv HFS
        go_wp2_with (fail)
        go_ret
        exact ⟨by rw [HBF.out]; rfl, HZ2.out.k⟩
      | true =>
        obtain ⟨y0, y1⟩ := HX2.out w2 (Kept.refl _ _)
        go_wp2_with (fail)
        refine (RHas_any F f fc y.o.dot _ HZ2.out.f (by omega)).mono ?_
        unfold BoolPost
        rintro e w3 ⟨rfl, hk3⟩
        have HZ3 := Lib.hid (HZ2.out.fresh hk3)
        obtain ⟨z0, z1⟩ := HX2.out w3 hk3
        clear hk3 HZ2 y0 y1 HX2
        cases hhs : hasV f y.o.dot with
        | true =>
          have HBF := Lib.hid (show b = false by rw [← HFS.out, if_pos (.inr hhs)])
          clear hcv HFS hhs
          go_wp2_with (fail)
          go_ret
          exact ⟨by rw [HBF.out]; rfl, HZ3.out.k⟩
        | false =>
          have HBT := Lib.hid (show followsB ((ys.drop (k + 1)).map (·.o)) (vec (maxR (says f) (says [y.o.dot]))) t = b by
            have := HFS.out
            rw [if_neg (by rw [hcv, hhs]; simp)] at this
            exact this)
          clear hcv HFS hhs
          go_wp2_with (fail)
          have HD3 := Lib.hid (dots_new1 w3 y.o.dot.site y.o.dot.seq 28)
          have HZ4 := Lib.hid (HZ3.out.fresh ((Kept.refl _ _).alloc (.cells #[.int .i64 y.o.dot.site, .int .i64 y.o.dot.seq] 28)))
          have hme := RMerge_any F (some ⟨w3.heap.size, 0, none⟩) f [y.o.dot] fc 1 _ HZ4.out.f HD3.out (by omega) (by simp)
          obtain ⟨l, hl⟩ : ∃ l, vec (maxR (says f) (says [y.o.dot])) = l := ⟨_, rfl⟩
          rw [hl] at hme HBT
          have HLL := Lib.hid (show l.length ≤ 1000000 by rw [← hl]; have := vecTo_len (maxR (says f) (says [y.o.dot])) 17; unfold vec; omega)
          refine hme.mono ?_
          rintro e w5 hfr
          obtain ⟨F5, c5, rfl, hd5, hk5⟩ := hfr.at
          have HZ5 := Lib.hid (show FoAt w base A c ys T t F5 l w5 from ⟨(HZ4.out.fresh hk5).k, HZ4.out.row, HZ4.out.ats, HZ4.out.t, hd5⟩)
          clear hme hl hfr hd5 hk5 HZ3 HD3 HZ4 z0 z1
          go_wp2_with (fail)
          go_roundw
          case rel => exact ⟨k + 1, F5, l, c5, rfl, by go_num, by omega, HLL.out, HBT.out, by rw [← HEA.out]; exact HZ5.out⟩
          case measure => simp [intOf]; omega
    · obtain rfl : k = ys.length := by omega
      have HFE := Lib.hid (show decide (f = t) = b by have := HFO.out; rw [List.drop_length] at this; exact this)
      go_wp2_with (fail)
      refine (vectors_any F T f t fc tc _ HZ1.out.f (HZ1.out.t.fresh HZ1.out.k) (by omega)).mono ?_
      unfold SamePost
      rw [HFE.out]
      rintro e w2 ⟨rfl, hk2⟩
      have HK2 := Lib.hid (HZ1.out.k.trans hk2 fun _ _ e => e)
      clear hk2
      go_wp2
      go_ret
      exact ⟨rfl, HK2.out⟩
end Go.Proofs.Ytnfehkncfjgeeaa

namespace Go.Proofs.Ytnfehkncfjgeeaa
open Go Go.RowKit

theorem neq_id_same (a b : Int) (W : World) : (binOp .neq 42 (.agg #[.int .i64 a, .int .i64 b]) (.agg #[.int .i64 a, .int .i64 b])).run Try.prog W = .ok (.bool false) W := by
  have hu : Try.prog.underlying 42 = some (.struct (Try.prog.fieldsOf 42)) := by kernel_rfl
  rw [run_neq_struct, run_equalIn_struct _ _ _ _ _ hu (by kernel_rfl), run_eqFields_id, Result.andThen_ok]
  simp
theorem run_eqFields_run (a b c : Int) (W : World) : (Op.eqFields 9999 #[.int .i64 a, .int .i64 b, .int .i64 c] #[.int .i64 a, .int .i64 b, .int .i64 c] (Try.prog.fieldsOf 87).toList).run Try.prog W = .ok true W := by
  have hf : (Try.prog.fieldsOf 87).toList.map (fun f => (decide (f.name = "_"), f.type, f.offset)) = [(false, 42, 0), (false, 3, 2)] := by kernel_rfl
  generalize (Try.prog.fieldsOf 87).toList = fs at hf ⊢
  have hl : fs.length = 2 := by have := congrArg List.length hf; simpa using this
  obtain ⟨f0, f1, rfl⟩ : ∃ f0 f1, fs = [f0, f1] := ⟨fs[0], fs[1], List.ext_getElem (by simp [hl]) fun i h1 h2 => by
    match i, h2 with
    | 0, _ => rfl
    | 1, _ => rfl⟩
  simp only [List.map_cons, List.map_nil, List.cons.injEq, Prod.mk.injEq, decide_eq_false_iff_not, and_true] at hf
  obtain ⟨⟨n0, t0, o0⟩, n1, t1, o1⟩ := hf
  have hu := Try.underlying3
  have e0 : (part 42 #[.int .i64 a, .int .i64 b, .int .i64 c] 0).run Try.prog W = .ok (.agg #[.int .i64 a, .int .i64 b]) W := run_part_id _ 0 _ _ W rfl
  have e1 : (part 3 #[.int .i64 a, .int .i64 b, .int .i64 c] 2).run Try.prog W = .ok (.int .i64 c) W := run_part_int _ 2 _ W rfl
  have c0 := run_equalIn_id 9996 a b a b W
  simp only [and_self, decide_true] at c0
  simp [Op.eqFields, n0, n1, t0, t1, o0, o1, e0, e1, c0, run_equalIn_int W 9998 3 .i64 .i64 _ _ hu]
theorem neq_run (a b c : Int) (W : World) : (binOp .neq 87 (.agg #[.int .i64 a, .int .i64 b, .int .i64 c]) (.agg #[.int .i64 a, .int .i64 b, .int .i64 c])).run Try.prog W = .ok (.bool false) W := by
  have hu : Try.prog.underlying 87 = some (.struct (Try.prog.fieldsOf 87)) := by kernel_rfl
  rw [run_neq_struct, run_equalIn_struct _ _ _ _ _ hu (by kernel_rfl), run_eqFields_run, Result.andThen_ok]
  rfl
theorem neq_dot_same (a b : Int) (W : World) : (binOp .neq 28 (.agg #[.int .i64 a, .int .i64 b]) (.agg #[.int .i64 a, .int .i64 b])).run Try.prog W = .ok (.bool false) W := by
  rw [neq_dot]
  simp
theorem box11 {w : World} {g : Nat} {t : TypeId} {a0 a1 a2 a3 a4 a5 a6 a7 a8 a9 a10 : Value} (h : Box w g t #[a0, a1, a2, a3, a4, a5, a6, a7, a8, a9, a10]) :
    w.cell? ⟨g, 0, none⟩ = some a0 ∧ w.cell? ⟨g, 1, none⟩ = some a1 ∧ w.cell? ⟨g, 2, none⟩ = some a2 ∧ w.cell? ⟨g, 3, none⟩ = some a3 ∧ w.cell? ⟨g, 4, none⟩ = some a4 ∧ w.cell? ⟨g, 5, none⟩ = some a5 ∧
    w.cell? ⟨g, 6, none⟩ = some a6 ∧ w.cell? ⟨g, 7, none⟩ = some a7 ∧ w.cell? ⟨g, 8, none⟩ = some a8 ∧ w.cell? ⟨g, 9, none⟩ = some a9 ∧ w.cell? ⟨g, 10, none⟩ = some a10 :=
  ⟨h.cell 0, h.cell 1, h.cell 2, h.cell 3, h.cell 4, h.cell 5, h.cell 6, h.cell 7, h.cell 8, h.cell 9, h.cell 10⟩
/-- Two operations in their boxes. -/
structure SmAt (w : World) (g h : Nat) (cs ds : Array Value) (gA hA : Option Addr) (l : List Rn) (W : World) : Prop where
  k : Kept (fun _ => False) w W
  b : Box W g 45 cs
  c : Box W h 45 ds
  r : RunsAt W gA l
  s : RunsAt W hA l
theorem SmAt.fresh {w : World} {g h : Nat} {cs ds : Array Value} {gA hA : Option Addr} {l : List Rn} {W W' : World} (z : SmAt w g h cs ds gA hA l W) (hk : Kept (fun _ => False) W W') : SmAt w g h cs ds gA hA l W' :=
  ⟨z.k.trans hk fun _ _ e => e, z.b.kept hk id, z.c.kept hk id, z.r.fresh hk, z.s.fresh hk⟩

set_option maxRecDepth 100000 in
set_option maxHeartbeats 3200000 in
theorem same_true (x y : Lop) (w : World) (hx : x.At w) (hy : y.At w) (he : y.o = x.o) (hd : x.o.deps.length ≤ 1000000) (hg : x.o.gone.length ≤ 1000000) :
    Calls Try.prog 28 #[.agg x.c, .agg y.c] w (BoolPost w true) := by
  have hk : Kept (fun _ => False) w ((w.alloc (.cells x.c 45)).alloc (.cells y.c 45)) := ((Kept.refl _ w).alloc _).alloc _
  have HZ := Lib.hid (show SmAt w w.heap.size (w.heap.size + 1) x.c y.c x.gA y.gA x.o.gone ((w.alloc (.cells x.c 45)).alloc (.cells y.c 45)) from
    ⟨hk, (Box.new w _ _).alloc _, by have := Box.new (w.alloc (.cells x.c 45)) 45 y.c; rwa [World.size_alloc] at this, hx.g.fresh hk, by have := hy.g.fresh hk; rwa [he] at this⟩)
  have HDX := Lib.hid (hx.d.fresh hk)
  have HDY := Lib.hid (show DotsAt ((w.alloc (.cells x.c 45)).alloc (.cells y.c 45)) y.dA x.o.deps by have := hy.d.fresh hk; rwa [he] at this)
  clear hk hx hy
  obtain ⟨⟨⟨ds, dq⟩, deps, kind, ⟨it, is⟩, ⟨rt, rs⟩, text, gone, site⟩, dA, dc, gA, gc⟩ := x
  obtain ⟨oy, dA', dc', gA', gc'⟩ := y
  simp only at he
  subst he
  unfold Lop.c Opr.cells at *
  simp only at *
  obtain ⟨c0, c1, c2, c3, c4, c5, c6, c7, c8, c9, c10⟩ := box11 HZ.out.b
  obtain ⟨d0, d1, d2, d3, d4, d5, d6, d7, d8, d9, d10⟩ := box11 HZ.out.c
  have n1 := neq_dot_same ds dq
  have n2 := neq_id_same it is
  have n3 := neq_id_same rt rs
  go_enter Try.func28, Try.ntmps28
  go_wp2_with (fail)
  refine (vectors_any dA dA' deps deps dc dc' _ HDX.out HDY.out (by omega)).mono ?_
  unfold SamePost
  rw [decide_eq_true rfl]
  rintro e w2 ⟨rfl, hk2⟩
  have HZ2 := Lib.hid (HZ.out.fresh hk2)
  clear hk2 HZ HDX HDY c0 c1 c2 c3 c4 c5 c6 c7 c8 c9 c10 d0 d1 d2 d3 d4 d5 d6 d7 d8 d9 d10 n1 n2 n3
  obtain ⟨-, -, -, -, -, -, -, -, -, c9, -⟩ := box11 HZ2.out.b
  obtain ⟨-, -, -, -, -, -, -, -, -, d9, -⟩ := box11 HZ2.out.c
  go_wp2_with (fail)
  clear c9 d9
  generalize w.heap.size = g1 at HZ2 ⊢
  go_loopw [5] (fun i wr => ∃ k : Nat, i = .int .i64 k ∧ k ≤ gone.length ∧ SmAt w g1 (g1 + 1) #[.int .i64 ds, .int .i64 dq, .slice dA deps.length dc, .int .i64 kind, .int .i64 it, .int .i64 is, .int .i64 rt, .int .i64 rs, .string text, .slice gA gone.length gc, .int .i64 site] #[.int .i64 ds, .int .i64 dq, .slice dA' deps.length dc', .int .i64 kind, .int .i64 it, .int .i64 is, .int .i64 rt, .int .i64 rs, .string text, .slice gA' gone.length gc', .int .i64 site] gA gA' gone wr) (fun i _ => gone.length - (intOf i).toNat)
  case atStart => exact ⟨0, rfl, Nat.zero_le _, HZ2.out⟩
  case round =>
    obtain ⟨k, rfl, hk, hz⟩ := hrel
    have HZ3 := Lib.hid hz
    clear HZ2 hz
    obtain ⟨-, -, -, -, -, -, -, -, -, c9, -⟩ := box11 HZ3.out.b
    obtain ⟨-, -, -, -, -, -, -, -, -, d9, -⟩ := box11 HZ3.out.c
    by_cases hlt : k < gone.length
    · obtain ⟨ad, rfl, x0, x1, x2⟩ := HZ3.out.r k hlt
      obtain ⟨ad', rfl, y0, y1, y2⟩ := HZ3.out.s k hlt
      generalize gone[k] = r at x0 x1 x2 y0 y1 y2
      have n := neq_run r.id.time r.id.site r.count
      go_wp2_with (fail)
      go_quiet (fail)
      go_wp2_with (fail)
      go_roundw
      case rel => exact ⟨k + 1, by go_num, by omega, HZ3.out.fresh ((Kept.refl _ _).drewN nq)⟩
      case measure => simp [intOf]; omega
    · obtain rfl : k = gone.length := by omega
      go_wp2
      go_ret
      exact ⟨rfl, HZ3.out.k⟩
end Go.Proofs.Ytnfehkncfjgeeaa

namespace Go.Proofs.Ytnfehkncfjgeeaa
open Go Go.RowKit

/-- A row of operations in memory. -/
structure RowAt (w : World) (A : Option Addr) (c : Nat) (ys : List Lop) : Prop where
  row : w.ownsRow 0 45 11 (.slice A ys.length c) ys.length (lops ys)
  ats : ∀ y ∈ ys, y.At w
theorem RowAt.fresh {w w' : World} {A : Option Addr} {c : Nat} {ys : List Lop} (h : RowAt w A c ys) (hk : Kept (fun _ => False) w w') : RowAt w' A c ys := ⟨hk.own h.row fun _ _ => id, fun y hy => (h.ats y hy).fresh hk⟩
theorem RowAt.of {w : World} {A : Option Addr} {c base : Nat} {ys : List Lop} (h : w.ownsRow base 45 11 (.slice A ys.length c) ys.length (lops ys)) (hl : OpLanes w base ys) : RowAt w A c ys := ⟨own_base h (Nat.zero_le _), fun y hy => (hl.own y hy).at⟩
theorem run_load_row {w : World} {a : Act} (op : Oper) (x : Operand) (ho : op.op = .load 45 x) (g k : Nat) (hx : a.eval x = .pointer (some ⟨g, k * 11, none⟩)) {base n c : Nat} (xs : List Lop)
    (hr : w.ownsRow base 45 11 (.slice (some ⟨g, 0, none⟩) n c) n (lops xs)) (hk : k < xs.length) (cs : Array Value) (hcs : xs[k].c = cs) : (execOp a.eval op).run Try.prog w = .ok (.value (.agg cs)) w := by
  obtain ⟨d, hu, hd⟩ := und_op
  have := run_loadVar_mid (P := Try.prog) w g (k * 11) 45 xs[k].c.toList d (range_of_row hr k hk) hu hd (by rw [Array.length_toList]; exact size_op)
  rw [Array.toArray_toList, hcs] at this
  unfold execOp
  simp only [ho, hx, Instr.loadAt, Instr.sureAddr, Sem.run_bind, Sem.run_pure, Result.andThen_ok, this]

set_option maxRecDepth 100000 in
set_option maxHeartbeats 3200000 in
theorem ops_true (A B : Option Addr) (ys zs : List Lop) (c d : Nat) (w : World) (hy : RowAt w A c ys) (hz : RowAt w B d zs) (he : zs.map (·.o) = ys.map (·.o)) (hl : ys.length ≤ 1000000)
    (hs : ∀ y ∈ ys, y.o.deps.length ≤ 1000000 ∧ y.o.gone.length ≤ 1000000) :
    Calls Try.prog 30 #[.slice A ys.length c, .slice B zs.length d] w (BoolPost w true) := by
  have hzl : zs.length = ys.length := by simpa using congrArg List.length he
  have HY := Lib.hid hy
  have HZ := Lib.hid hz
  have HE := Lib.hid he
  have HS := Lib.hid hs
  clear hy hz he hs
  rw [hzl]
  have HZL := Lib.hid hzl
  clear hzl
  go_enter Try.func30, Try.ntmps30
  go_wp2_with (fail)
  go_loopw [5] (fun i wr => ∃ k : Nat, i = .int .i64 k ∧ k ≤ ys.length ∧ Kept (fun _ => False) w wr) (fun i _ => ys.length - (intOf i).toNat)
  case atStart => exact ⟨0, rfl, Nat.zero_le _, Kept.refl _ _⟩
  case round =>
    obtain ⟨k, rfl, hk, hkk⟩ := hrel
    have HK := Lib.hid hkk
    by_cases hlt : k < ys.length
    · have hltz : k < zs.length := by rw [HZL.out]; exact hlt
      have hy' := (HY.out.fresh hkk).row
      have hz' := (HZ.out.fresh hkk).row
      obtain ⟨g, cap, hv, _⟩ := World.ownsRow.form hy' (by omega)
      obtain ⟨g', cap', hv', _⟩ := World.ownsRow.form hz' (by omega)
      injection hv with e1 _ e3
      injection hv' with e1' _ e3'
      clear e3 e3'
      obtain ⟨x, hx⟩ : ∃ x, ys[k] = x := ⟨_, rfl⟩
      obtain ⟨y, hyy⟩ : ∃ y, zs[k] = y := ⟨_, rfl⟩
      have hxy : y.o = x.o := by
        have := congrArg (fun l : List Opr => l[k]?) HE.out
        simp only [List.getElem?_map, List.getElem?_eq_getElem hlt, List.getElem?_eq_getElem hltz, Option.map_some, hx, hyy] at this
        injection this
      have hxm : x ∈ ys := by rw [← hx]; exact List.getElem_mem hlt
      have hym : y ∈ zs := by rw [← hyy]; exact List.getElem_mem hltz
      have HSAME := Lib.hid (fun W (hW : Kept (fun _ => False) w W) => same_true x y W ((HY.out.ats x hxm).fresh hW) ((HZ.out.ats y hym).fresh hW) hxy (HS.out x hxm).1 (HS.out x hxm).2)
      have HRY := Lib.hid (fun W (hW : Kept (fun _ => False) w W) => show W.ownsRow 0 45 11 (.slice (some ⟨g, 0, none⟩) ys.length c) ys.length (lops ys) by have := (HY.out.fresh hW).row; rwa [e1] at this)
      have HRZ := Lib.hid (fun W (hW : Kept (fun _ => False) w W) => show W.ownsRow 0 45 11 (.slice (some ⟨g', 0, none⟩) zs.length d) zs.length (lops zs) by have := (HZ.out.fresh hW).row; rwa [e1'] at this)
      obtain ⟨cs, hcs⟩ : ∃ cs, x.c = cs := ⟨_, rfl⟩
      obtain ⟨ds, hds⟩ : ∃ ds, y.c = ds := ⟨_, rfl⟩
      have HXC := Lib.hid (show ys[k].c = cs by rw [hx, hcs])
      have HYC := Lib.hid (show zs[k].c = ds by rw [hyy, hds])
      rw [hcs, hds] at HSAME
      rw [e1, e1']
      have hk0 : (0 : Int) ≤ (k : Int) := by omega
      have hkn : (k : Int) < (ys.length : Int) := by omega
      clear hcs hds hxm hym hxy hx hyy e1 e1' hy' hz' hkk HE
      go_wp2_with (fail)
      as_aux_lemma =>
        refine wp_region_held_drew (S := fun W => Kept (fun _ => False) w W) (by kernel_rfl) HK.out.drew fun hS => ?_
        generalize World.drew _ = w6 at hS ⊢
        refine held_takeTo 17 (i := 0) (v := .slice (some ⟨g, 0, none⟩) ys.length c) rfl rfl (by kernel_rfl) (by kernel_rfl) (by kernel_rfl) (fun _ _ _ h => h) rfl hS (fun W hW => by go_simp) ?_
        simp only [List.setIfInBounds_toArray, List.set_cons_zero, List.set_cons_succ]
        refine held_takeTo 18 (i := 1) (v := .int .i64 k) rfl rfl (by kernel_rfl) (by kernel_rfl) (by kernel_rfl) (fun _ _ _ h => h) rfl hS (fun W hW => by go_simp) ?_
        simp only [List.setIfInBounds_toArray, List.set_cons_zero, List.set_cons_succ]
        refine held_takeTo 19 (i := 2) (v := .pointer (some ⟨g, k * 11, none⟩)) rfl rfl (by kernel_rfl) (by kernel_rfl) (by kernel_rfl) (fun _ _ _ h => h) rfl hS (fun W hW => by go_simp) ?_
        simp only [List.setIfInBounds_toArray, List.set_cons_zero, List.set_cons_succ]
        refine held_takeTo 20 (i := 3) (v := .agg cs) rfl rfl (by kernel_rfl) (by kernel_rfl) (by kernel_rfl) (fun _ _ _ h => h) rfl hS (fun W hW => run_load_row _ _ rfl g k rfl ys (HRY.out W hW) hlt cs HXC.out) ?_
        simp only [List.setIfInBounds_toArray, List.set_cons_zero, List.set_cons_succ]
        refine held_takeTo 21 (i := 4) (v := .slice (some ⟨g', 0, none⟩) ys.length d) rfl rfl (by kernel_rfl) (by kernel_rfl) (by kernel_rfl) (fun _ _ _ h => h) rfl hS (fun W hW => by go_simp) ?_
        simp only [List.setIfInBounds_toArray, List.set_cons_zero, List.set_cons_succ]
        refine held_takeTo 22 (i := 5) (v := .int .i64 k) rfl rfl (by kernel_rfl) (by kernel_rfl) (by kernel_rfl) (fun _ _ _ h => h) rfl hS (fun W hW => by go_simp) ?_
        simp only [List.setIfInBounds_toArray, List.set_cons_zero, List.set_cons_succ]
        refine held_takeTo 23 (i := 6) (v := .pointer (some ⟨g', k * 11, none⟩)) rfl rfl (by kernel_rfl) (by kernel_rfl) (by kernel_rfl) (fun _ _ _ h => h) rfl hS (fun W hW => by go_simp) ?_
        simp only [List.setIfInBounds_toArray, List.set_cons_zero, List.set_cons_succ]
        refine held_takeTo 24 (i := 7) (v := .agg ds) rfl rfl (by kernel_rfl) (by kernel_rfl) (by kernel_rfl) (fun _ _ _ h => h) rfl hS (fun W hW => run_load_row _ _ rfl g' k rfl zs (HRZ.out W hW) hltz ds HYC.out) ?_
        simp only [List.setIfInBounds_toArray, List.set_cons_zero, List.set_cons_succ]
        refine held_one (i := 8) (by kernel_rfl) rfl fun K hK => ?_
        go_wp2_with (fail)
        refine (HSAME.out w6 hS).mono ?_
        unfold BoolPost
        rintro e w7 ⟨rfl, hk7⟩
        have hS7 := hS.trans hk7 fun _ _ e => e
        clear hk7
        go_wp2_with (fail)
        refine hK.out _ _ hS7 fun _ => ?_
        clear hK K
        refine held_one (i := 9) (by kernel_rfl) rfl fun K hK => ?_
        go_wp2_with (fail)
        refine hK.out _ _ hS7 fun _ => ?_
        clear hK K
        refine wpAnyH_done (by kernel_rfl) ?_ _
        have HS7 := Lib.hid hS7
        clear hS7 hS
        go_wp2_with (fail)
        go_roundw
        case rel => exact ⟨k + 1, by go_num, by omega, HS7.out⟩
        case measure => simp [intOf]; omega
    · obtain rfl : k = ys.length := by omega
      clear hkk
      go_wp2
      go_ret
      exact ⟨rfl, HK.out⟩
end Go.Proofs.Ytnfehkncfjgeeaa

namespace Go.Proofs.Ytnfehkncfjgeeaa
open Go Go.RowKit

theorem LogAt.stays {W W' : World} {p q : Nat} {L M : Lg} (h : LogAt W q M) (hl : LogAt W p L) (hk : Kept (fun k => k = p ∨ L.oV.ownBlock = some k) W W') (hne : p ≠ q) (hap : Apart L.oV M.oV) : LogAt W' q M := by
  have hs : ∀ {T : TypeId}, T ≠ 45 → T ≠ 51 → NoKind W (fun k => k = p ∨ L.oV.ownBlock = some k) T := fun h1 h2 k hk cs c hc => by
    rcases hk with rfl | hk
    · exact NoKind.box hl.box h2 k rfl cs c hc
    · exact NoKind.own hl.o h1 k hk cs c hc
  refine ⟨h.box.kept hk fun e => ?_, hk.own_kind (hs (by decide) (by decide)) h.b, hk.own_kind (hs (by decide) (by decide)) h.a, hk.own h.o fun k hk' e => ?_, fun x hx => (h.own x hx).kept hk (hs (by decide) (by decide)) (hs (by decide) (by decide)), h.small, h.bl, h.al, h.ol⟩
  · rcases e with e | e
    · exact hne e.symm
    · exact own_box_ne hl.o h.box (by decide) e
  · rcases e with rfl | e
    · exact own_box_ne h.o hl.box (by decide) hk'
    · exact hap k e hk'
/-- Two logs in memory, apart. -/
structure TwoLogs (w : World) (p q : Nat) (L M : Lg) (W : World) : Prop where
  l : LogOf w p L W
  m : LogOf w q M W
  ne : p ≠ q
  ap : Apart L.oV M.oV
section
variable {w W W' : World} {p q : Nat} {L L' M M' : Lg}
theorem TwoLogs.fresh (h : TwoLogs w p q L M W) (hk : Kept (fun _ => False) W W') : TwoLogs w p q L M W' := ⟨h.l.fresh hk, h.m.fresh hk, h.ne, h.ap⟩
theorem TwoLogs.turnL (h : TwoLogs w p q L M W) (hl : LogOf w p L' W') (hk : Kept (fun k => k = p ∨ L.oV.ownBlock = some k) W W') (hg : Goes W L.oV L'.oV) : TwoLogs w p q L' M W' :=
  ⟨hl, ⟨h.m.l.stays h.l.l hk h.ne h.ap, hl.k, h.m.ge, h.m.ov⟩, h.ne, fun k h1 h2 => by
    rcases hg k h1 with e | e
    · exact h.ap k e h2
    · have := (h.m.l.o.lt k h2).2; omega⟩
theorem TwoLogs.swap (h : TwoLogs w p q L M W) : TwoLogs w q p M L W := ⟨h.m, h.l, fun e => h.ne e.symm, h.ap.symm⟩
theorem TwoLogs.turnR (h : TwoLogs w p q L M W) (hm : LogOf w q M' W') (hk : Kept (fun k => k = q ∨ M.oV.ownBlock = some k) W W') (hg : Goes W M.oV M'.oV) : TwoLogs w p q L M' W' := (h.swap.turnL hm hk hg).swap
end

/-! cutting twice -/
theorem hasR_max (u v : List Int) (d : Dt) : hasR (maxR u v) d = (hasR u d || hasR v d) := by
  unfold hasR
  by_cases hs : siteB d.site = true
  · have h1 : 1 ≤ d.site ∧ d.site ≤ 16 := by simpa [siteB] using hs
    rw [if_pos hs, if_pos hs, if_pos hs, rg_max _ _ (by omega), Bool.eq_iff_iff, Bool.or_eq_true, decide_eq_true_iff, decide_eq_true_iff, decide_eq_true_iff]
    omega
  · rw [if_neg hs, if_neg hs, if_neg hs, Bool.or_self]
theorem cut_all (P : Pl) (a : List Dt) : (P.cut a).all = P.all := by unfold Pl.cut; split <;> rfl
theorem cutErr_eq {P Q : Pl} (h : P.all = Q.all) (b : List Dt) : P.cutErr b = Q.cutErr b := by unfold Pl.cutErr; rw [h]
theorem cutErr_zero {P : Pl} {a : List Dt} : P.cutErr a = 0 ↔ checkV a = 0 ∧ coversR (says P.all) (says a) = true := by
  unfold Pl.cutErr
  by_cases h1 : checkV a = 0
  · rw [if_neg (by simp [h1])]
    cases hc : coversR (says P.all) (says a) with
    | true => simp [h1]
    | false => simp
  · rw [if_pos h1]
    exact ⟨fun h => absurd h h1, fun h => absurd h.1 h1⟩
section
variable {P : Pl} {a b : List Dt}
def bothV (a b : List Dt) : List Dt := vec (maxR (says a) (says b))
theorem says_both : says (bothV a b) = maxR (says a) (says b) := says_vec ((Row.says a).maxR (Row.says b))
theorem both_err (ha : P.cutErr a = 0) (hb : P.cutErr b = 0) : P.cutErr (bothV a b) = 0 := by
  rw [cutErr_zero] at *
  exact ⟨check_vec ((Row.says a).maxR (Row.says b)), by rw [says_both, cov_of_max, ha.2, hb.2]; rfl⟩
theorem has_both (d : Dt) : hasV (bothV a b) d = (hasV a d || hasV b d) := by
  rw [hasV_eq, says_both, hasR_max]
  rfl
theorem filter_count {α : Type} (f g : α → Bool) (l : List α) : (l.filter f).length + ((l.filter fun x => !f x).filter g).length = (l.filter fun x => f x || g x).length := by
  induction l with
  | nil => rfl
  | cons x l ih =>
    cases hf : f x <;> cases hg : g x <;> simp [hf, hg] at ih ⊢ <;> omega
theorem filter_parts {α : Type} (f : α → Bool) (l : List α) : (l.filter f).length + (l.filter fun x => !f x).length = l.length := by
  induction l with
  | nil => rfl
  | cons x l ih =>
    simp only [List.filter_cons]
    cases hf : f x <;> simp <;> omega
theorem cut_twice (ha : P.cutErr a = 0) (hb : P.cutErr b = 0) : (P.cut a).cut b = P.cut (bothV a b) := by
  have hb' : (P.cut a).cutErr b = 0 := by rw [cutErr_eq (cut_all P a)]; exact hb
  have e1 : P.cut a = ⟨vec (maxR (says P.base) (says a)), P.all, P.ops.filter fun o => !hasV a o.dot⟩ := if_pos ha
  have e2 : (P.cut a).cut b = ⟨vec (maxR (says (P.cut a).base) (says b)), (P.cut a).all, (P.cut a).ops.filter fun o => !hasV b o.dot⟩ := if_pos hb'
  have e3 : P.cut (bothV a b) = ⟨vec (maxR (says P.base) (says (bothV a b))), P.all, P.ops.filter fun o => !hasV (bothV a b) o.dot⟩ := if_pos (both_err ha hb)
  rw [e2, e3, e1]
  simp only [Pl.mk.injEq, true_and]
  refine ⟨?_, ?_⟩
  · rw [says_vec ((Row.says P.base).maxR (Row.says a)), says_both, max_assoc']
  · rw [List.filter_filter]
    congr 1
    funext o
    rw [has_both]
    cases hasV a o.dot <;> cases hasV b o.dot <;> rfl
end
end Go.Proofs.Ytnfehkncfjgeeaa

namespace Go.Proofs.Ytnfehkncfjgeeaa
open Go Go.RowKit

theorem d_len {L M : Lg} (h : L.d = M.d) : L.ops.length = M.ops.length := by
  have := congrArg (fun P : Pl => P.ops.length) h
  simpa [Lg.d] using this
/-- Behind the script: two logs alike; what was kept; a vector. -/
structure CuA (w : World) (p q : Nat) (L M : Lg) (WA : Option Addr) (wc : Nat) (ws : List Lop) (V : Option Addr) (vc : Nat) (v : List Dt) (W : World) : Prop where
  t : TwoLogs w p q L M W
  r : W.ownsRow 0 45 11 (.slice WA ws.length wc) ws.length (lops ws)
  n : OpLanes W 0 ws
  v : W.ownsRow 0 28 2 (.slice V v.length vc) v.length (dots v)
  al : Apart (.slice WA ws.length wc) L.oV
  am : Apart (.slice WA ws.length wc) M.oV
theorem OpLanes.base {w : World} {b b' : Nat} {ys : List Lop} (h : OpLanes w b ys) (hb : b' ≤ b) : OpLanes w b' ys := ⟨fun y hy => ⟨own_base (h.own y hy).d hb, own_base (h.own y hy).g hb⟩, h.apart⟩
section
variable {w W W' : World} {p q : Nat} {L M L' M' : Lg} {WA V : Option Addr} {wc vc : Nat} {ws : List Lop} {v : List Dt}
theorem CuA.fresh (h : CuA w p q L M WA wc ws V vc v W) (hk : Kept (fun _ => False) W W') : CuA w p q L M WA wc ws V vc v W' := ⟨h.t.fresh hk, hk.own h.r fun _ _ => id, h.n.fresh hk, hk.own h.v fun _ _ => id, h.al, h.am⟩
theorem goes_apart {X : Value} {b n s : Nat} {e : TypeId} {xs : List Value} (hX : W.ownsRow b e s X n xs) (h : Apart X L.oV) (hg : Goes W L.oV L'.oV) : Apart X L'.oV := fun k hk hk' => by
  rcases hg k hk' with e | e
  · exact h k hk e
  · have := (hX.lt k hk).2; omega
theorem log_kinds (h : LogAt W p L) {T : TypeId} (h1 : T ≠ 45) (h2 : T ≠ 51) : NoKind W (fun k => k = p ∨ L.oV.ownBlock = some k) T := fun k hk cs c hc => by
  rcases hk with rfl | hk
  · exact NoKind.box h.box h2 k rfl cs c hc
  · exact NoKind.own h.o h1 k hk cs c hc
theorem CuA.turnL (h : CuA w p q L M WA wc ws V vc v W) (hl : LogOf w p L' W') (hk : Kept (fun k => k = p ∨ L.oV.ownBlock = some k) W W') (hg : Goes W L.oV L'.oV) : CuA w p q L' M WA wc ws V vc v W' :=
  ⟨h.t.turnL hl hk hg, hk.own h.r fun k hk' e => by
    rcases e with rfl | e
    · exact own_box_ne h.r h.t.l.l.box (by decide) hk'
    · exact h.al k hk' e, h.n.kept hk (log_kinds h.t.l.l (by decide) (by decide)) (log_kinds h.t.l.l (by decide) (by decide)), hk.own_kind (log_kinds h.t.l.l (by decide) (by decide)) h.v, goes_apart h.r h.al hg, h.am⟩
theorem CuA.swap (h : CuA w p q L M WA wc ws V vc v W) : CuA w q p M L WA wc ws V vc v W := ⟨h.t.swap, h.r, h.n, h.v, h.am, h.al⟩
theorem CuA.turnR (h : CuA w p q L M WA wc ws V vc v W) (hl : LogOf w q M' W') (hk : Kept (fun k => k = q ∨ M.oV.ownBlock = some k) W W') (hg : Goes W M.oV M'.oV) : CuA w p q L M' WA wc ws V vc v W' := (h.swap.turnL hl hk hg).swap
theorem CuA.other (h : CuA w p q L M WA wc ws V vc v W) {V' : Option Addr} {vc' : Nat} {v' : List Dt} (hk : Kept (fun _ => False) W W') (hv : W'.ownsRow W.heap.size 28 2 (.slice V' v'.length vc') v'.length (dots v')) : CuA w p q L M WA wc ws V' vc' v' W' :=
  ⟨h.t.fresh hk, hk.own h.r fun _ _ => id, h.n.fresh hk, own_base hv (Nat.zero_le _), h.al, h.am⟩
theorem CuA.made (h : TwoLogs w p q L M W) (hk : Kept (fun _ => False) W W') (hr : W'.ownsRow W.heap.size 45 11 (.slice WA ws.length wc) ws.length (lops ws)) (hn : OpLanes W' W.heap.size ws) : CuA w p q L M WA wc ws none 0 [] W' :=
  ⟨h.fresh hk, own_base hr (Nat.zero_le _), hn.base (Nat.zero_le _), World.ownsRow_nil _ _ _ _, fun k h1 h2 => by have := (hr.lt k h1).1; have := (h.l.l.o.lt k h2).2; omega, fun k h1 h2 => by have := (hr.lt k h1).1; have := (h.m.l.o.lt k h2).2; omega⟩
theorem CuA.row (h : CuA w p q L M WA wc ws V vc v W) : RowAt W WA wc ws := ⟨h.r, fun y hy => (h.n.own y hy).at⟩
/-- At the end: all that is only read from here on. -/
structure CuE (w : World) (WA : Option Addr) (wc : Nat) (ws : List Lop) (ZA : Option Addr) (zc : Nat) (zs : List Lop) (LA : Option Addr) (lc : Nat) (ls : List Lop) (CA : Option Addr) (bo : List Dt) (W : World) : Prop where
  k : Kept (fun _ => False) w W
  r : RowAt W WA wc ws
  z : RowAt W ZA zc zs
  l : RowAt W LA lc ls
  b : DotsAt W CA bo
theorem CuE.fresh {ZA LA CA : Option Addr} {zc lc : Nat} {zs ls : List Lop} {bo : List Dt} (h : CuE w WA wc ws ZA zc zs LA lc ls CA bo W) (hk : Kept (fun _ => False) W W') : CuE w WA wc ws ZA zc zs LA lc ls CA bo W' := ⟨h.k.trans hk fun _ _ e => e, h.r.fresh hk, h.z.fresh hk, h.l.fresh hk, h.b.fresh hk⟩
theorem older (h : TwoLogs w p q L M W) {H : Option Addr} {hv : List Dt} (hd : DotsAt w H hv) (h0 : 0 < hv.length) (a : Addr) (ha : H = some a) : L.oV.ownBlock ≠ some a.block := fun e => by
  have := dots_lt hd h0 a ha
  have := h.l.ov _ e
  omega
theorem newer (h : LogAt W q M) {H : Option Addr} {n c : Nat} {e : TypeId} {xs : List Value} (hv : W'.ownsRow W.heap.size e 2 (.slice H n c) n xs) (a : Addr) (ha : H = some a) : M.oV.ownBlock ≠ some a.block := fun e => by
  subst ha
  have := (hv.lt a.block rfl).1
  have := (h.o.lt _ e).2
  omega
theorem cut_yes_facts {a V : List Dt} (hv : L.all = V) (h : cutErr L a = 0) : checkV a = 0 ∧ coversR (says V) (says a) = true := by subst hv; exact (cutErr_zero (P := L.d)).1 h
theorem cut_no_facts {a V : List Dt} (hv : L.all = V) (h : ¬ cutErr L a = 0) (hc : checkV a = 0) : coversR (says V) (says a) = false := by
  subst hv
  cases he : coversR (says L.all) (says a) with
  | false => rfl
  | true => exact absurd ((cutErr_zero (P := L.d)).2 ⟨hc, he⟩) h
theorem cut_d {a : List Dt} (h : cutErr L a = 0) (hb : L'.base = vec (maxR (says L.base) (says a))) (ha : L'.all = L.all) (ho : L'.ops = L.ops.filter fun x => !hasV a x.o.dot) : L'.d = L.d.cut a := by
  have h' : L.d.cutErr a = 0 := h
  unfold Pl.cut
  rw [if_pos h']
  unfold Lg.d
  rw [hb, ha, ho]
  exact congrArg (Pl.mk _ _) (lops_filter L.ops fun o => !hasV a o.dot)
theorem cut_len {a : List Dt} {gs : List Lop} (h : gs.map (·.o) = (L.ops.filter fun x => hasV a x.o.dot).map (·.o)) : gs.map (·.o) = L.d.ops.filter fun o => hasV a o.dot := h.trans (lops_filter L.ops fun o => hasV a o.dot)
theorem both_zero {a b bo : List Dt} (hd : L.d = M.d) (ha : cutErr L a = 0) (h1 : L'.d = L.d.cut a) (hb : cutErr L' b = 0) (hbo : bothV a b = bo) : cutErr M bo = 0 := by
  subst hbo
  have e1 : L.d.cutErr b = 0 := by rw [← cutErr_eq (cut_all L.d a), ← h1]; exact hb
  have := both_err (P := L.d) ha e1
  rw [hd] at this
  exact this
theorem both_cut {a b bo : List Dt} {L2 : Lg} {xs ys zs ws : List Lop} (hd : L.d = M.d) (ha : cutErr L a = 0) (h1 : L'.d = L.d.cut a) (hb : cutErr L' b = 0) (h2 : L2.d = L'.d.cut b) (hbo : bothV a b = bo) (h3 : M'.d = M.d.cut bo)
    (hx : xs.map (·.o) = L.d.ops.filter fun o => hasV a o.dot) (hy : ys.map (·.o) = L'.d.ops.filter fun o => hasV b o.dot) (hz : zs.map (·.o) = M.d.ops.filter fun o => hasV bo o.dot) (hw : ws.map (·.o) = L.d.ops) :
    L2.d = M'.d ∧ xs.length + ys.length = zs.length ∧ zs.length + M'.ops.length = ws.length ∧ zs.map (·.o) = (ws.map (·.o)).filter (fun o => hasV bo o.dot) ∧ M'.ops.map (·.o) = (ws.map (·.o)).filter (fun o => !hasV bo o.dot) := by
  have e1 : L.d.cutErr b = 0 := by rw [← cutErr_eq (cut_all L.d a), ← h1]; exact hb
  have e0 : M.d.cutErr bo = 0 := both_zero hd ha h1 hb hbo
  have hl1 : L'.d.ops = L.d.ops.filter fun o => !hasV a o.dot := by rw [h1]; unfold Pl.cut; rw [if_pos (show L.d.cutErr a = 0 from ha)]
  have hm1 : M'.d.ops = M.d.ops.filter fun o => !hasV bo o.dot := by rw [h3]; unfold Pl.cut; rw [if_pos e0]
  have hml : M'.ops.length = M'.d.ops.length := (List.length_map _).symm
  have hxl := congrArg List.length hx
  have hyl := congrArg List.length hy
  have hzl := congrArg List.length hz
  have hwl := congrArg List.length hw
  rw [List.length_map] at hxl hyl hzl hwl
  rw [hl1] at hyl
  rw [← hd] at hzl hz hm1
  refine ⟨by rw [h2, h1, h3, ← hd, ← hbo]; exact cut_twice ha e1, ?_, ?_, by rw [hw]; exact hz, by rw [hw]; exact hm1⟩
  · rw [hxl, hyl, hzl, filter_count, ← hbo]
    simp only [has_both]
  · rw [hml, hm1, hzl, hwl, filter_parts]
end
/-! along a list and what a test keeps of it -/
theorem filter_at {α : Type} (f : α → Bool) (l : List α) (i : Nat) (hi : i < l.length) (hf : f l[i] = true) : (l.filter f)[((l.take i).filter f).length]? = some l[i] := by
  have e : l = l.take i ++ l[i] :: l.drop (i + 1) := by rw [← List.drop_eq_getElem_cons hi, List.take_append_drop]
  have : l.filter f = (l.take i).filter f ++ l[i] :: (l.drop (i + 1)).filter f := by
    conv => lhs; rw [e]
    rw [List.filter_append, List.filter_cons, if_pos hf]
  rw [this, List.getElem?_append_right (Nat.le_refl _), Nat.sub_self]
  rfl
theorem filter_up {α : Type} (f : α → Bool) (l : List α) (i : Nat) (hi : i < l.length) : ((l.take (i + 1)).filter f).length = ((l.take i).filter f).length + if f l[i] = true then 1 else 0 := by
  rw [List.take_succ_eq_append_getElem hi, List.filter_append, List.length_append, List.filter_cons]
  split <;> simp
theorem lacks_none (l : List Lop) : lacks [] l = l := by
  have h : checkV [] = 0 := rfl
  have h2 : ∀ d : Dt, hasV [] d = false := fun d => by
    unfold hasV
    simp only [decide_eq_false_iff_not, not_and, Int.not_le]
    intro h1
    have : getV [] d.site = 0 := by
      unfold getV
      split
      · exact rg_row0 _
      · rfl
    omega
  unfold lacks
  rw [if_pos h]
  simp [h2]
/-- A guarded operation that reads, where its guard is met. -/
theorem held_takeG {P : Program} {ops : Array Oper} {md : Region.Mode} {Q : Exit → Act → World → Prop} {S : World → Prop} {i : Nat} {oi : Oper} {v : Value} {fuel : Nat} {listed : Array Bool} {a : Act} {w : World} (t : Tmp) (hi : ops[i]? = some oi) (hd : oi.dst = some t)
    (hs : Region.noSelect ops = true) (hf : Region.free md ops listed i = true) (hr : (Region.ready md ops listed).contains i = true)
    (hQ : ∀ c a w, Q (.panic c) (a.put (some t) v) w → Q (.panic c) a w) (hg : Region.wanted oi (yielded ops a.tmps) = true) (hS : S w) (hy : ∀ w, S w → (execOp a.eval oi).run P w = .ok (.value v) w)
    (h : wpAnyH P md ops Q S fuel (listed.setIfInBounds i true) { a with tmps := a.tmps.setIfInBounds t v } w) : wpAnyH P md ops Q S (fuel + 1) listed a w :=
  wpAnyH_take hi hs hf hr (by rw [hd]; exact hQ) (.inl ⟨hg, hy⟩) hS (by rw [hd]; exact h)
def kcnt (f : Opr → Bool) (ws : List Lop) (j : Nat) : Nat := (((ws.map (·.o)).take j).filter f).length
theorem kcnt_zero (f : Opr → Bool) (ws : List Lop) : kcnt f ws 0 = 0 := rfl
theorem kcnt_up (f : Opr → Bool) (ws : List Lop) (j : Nat) (hj : j < ws.length) : kcnt f ws (j + 1) = kcnt f ws j + if f ws[j].o = true then 1 else 0 := by
  have h := filter_up f (ws.map (·.o)) j (by simpa using hj)
  rw [List.getElem_map] at h
  exact h
theorem pick_at {f : Opr → Bool} {ws zs : List Lop} (hz : zs.map (·.o) = (ws.map (·.o)).filter f) (j : Nat) (hj : j < ws.length) (hf : f ws[j].o = true) : ∃ h : kcnt f ws j < zs.length, zs[kcnt f ws j].o = ws[j].o := by
  have := filter_at f (ws.map (·.o)) j (by simpa using hj) (by simpa using hf)
  rw [← hz, List.getElem?_map, List.getElem_map] at this
  have hc : (((ws.map (·.o)).take j).filter f).length = kcnt f ws j := rfl
  rw [hc] at this
  cases he : zs[kcnt f ws j]? with
  | none => rw [he] at this; cases this
  | some z =>
    rw [he] at this
    injection this with e
    obtain ⟨h, h2⟩ := List.getElem?_eq_some_iff.1 he
    exact ⟨h, by rw [h2]; exact e⟩
theorem pick_n {f : Opr → Bool} {ws zs : List Lop} (hz : zs.map (·.o) = (ws.map (·.o)).filter f) (j : Nat) (hj : j < ws.length) (hf : f ws[j].o = true) (n : Nat) (hn : kcnt f ws j = n) : ∃ h : n < zs.length, zs[n].o = ws[j].o := by
  subst hn
  exact pick_at hz j hj hf
end Go.Proofs.Ytnfehkncfjgeeaa

namespace Go.Proofs.Ytnfehkncfjgeeaa
open Go Go.RowKit

set_option maxRecDepth 100000 in
set_option maxHeartbeats 6000000 in
theorem Cuts_walk (B : Option Addr) (bl : List Dt) (bc : Nat) (A : Option Addr) (l : List Stp) (c : Nat) (XA : Option Addr) (a : List Dt) (ac : Nat) (YA : Option Addr) (b : List Dt) (bbc : Nat) (w : World) (hb : DotsAt w B bl) (hs : ScrAt w A l) (hxa : DotsAt w XA a) (hyb : DotsAt w YA b)
    (hl : l.length ≤ 4611686018427387904) (hbl : bl.length ≤ 4611686018427387904) (hal : a.length ≤ 4611686018427387904) (hbbl : b.length ≤ 4611686018427387904) :
    Calls Try.prog 8 #[.slice B bl.length bc, .slice A l.length c, .slice XA a.length ac, .slice YA b.length bbc] w (BoolPost w true) := by
  have HB := Lib.hid hb
  have HS := Lib.hid hs
  have HXA := Lib.hid hxa
  have HYB := Lib.hid hyb
  clear hb hs hxa hyb
  go_enter Try.func8, Try.ntmps8
  go_wp2_with (fail)
  refine (much_any A l c B bl.length bc w HS.out.steps hl hbl).mono ?_
  unfold BoolPost
  rintro e w1 ⟨rfl, hk1⟩
  have HK1 := Lib.hid hk1
  clear hk1
  have hfin : ∀ W, Kept (fun _ => False) w W → Calls Try.prog 11 #[] W fun e W' => e = .returned (.bool true) ∧ Kept (fun _ => False) w W' := fun W hk => (known_any W).mono fun e W' ⟨h1, h2⟩ => ⟨h1, hk.trans h2 fun _ _ e => e⟩
  have HFIN := Lib.hid hfin
  clear hfin
  cases hm : muchB l bl.length with
  | true =>
    clear hm
    go_wp2_with (fail)
    refine (HFIN.out _ HK1.out).mono ?_
    rintro e w2 ⟨rfl, hk2⟩
    have HK2 := Lib.hid hk2
    clear hk2
    go_wp2
    go_ret
    exact ⟨rfl, HK2.out⟩
  | false =>
    obtain ⟨hok, hl200, hb6⟩ := HS.out.ok hm
    have HOK := Lib.hid hok
    clear hm hok
    by_cases ha6 : 60000 < a.length
    · go_wp2_with (fail)
      refine (HFIN.out _ HK1.out).mono ?_
      rintro e w2 ⟨rfl, hk2⟩
      have HK2 := Lib.hid hk2
      clear hk2
      go_wp2
      go_ret
      exact ⟨rfl, HK2.out⟩
    have ha6' : a.length ≤ 60000 := by omega
    by_cases hb66 : 60000 < b.length
    · clear ha6
      go_wp2_with (fail)
      refine (HFIN.out _ HK1.out).mono ?_
      rintro e w2 ⟨rfl, hk2⟩
      have HK2 := Lib.hid hk2
      clear hk2
      go_wp2
      go_ret
      exact ⟨rfl, HK2.out⟩
    have hb6' : b.length ≤ 60000 := by omega
    clear ha6 hb66
    go_wp2_with (fail)
    refine (New_any B bl bc w1 (HB.out.fresh HK1.out) (by omega)).mono ?_
    rintro e w2 (⟨hcb, p, L, rfl, hlg, hb0, ha0, ho0, hoA, hge, hk2⟩ | ⟨hcb, rfl, hk2⟩)
    rotate_left
    · have HK2 := Lib.hid (HK1.out.trans hk2 fun _ _ e => e)
      have hd : ¬ checkV bl = 0 := hcb
      clear hk2
      go_wp2_with (fail)
      refine (HFIN.out _ HK2.out).mono ?_
      rintro e w3 ⟨rfl, hk3⟩
      have HK3 := Lib.hid hk3
      clear hk3
      go_wp2
      go_ret
      exact ⟨rfl, HK3.out⟩
    have HL := Lib.hid (LogOf.made hlg (HK1.out.trans hk2 fun _ _ e => e) (Nat.le_trans HK1.out.size hge) hoA)
    have HD := Lib.hid (show L.d = ⟨bl, bl, []⟩ by unfold Lg.d; rw [hb0, ha0, ho0]; rfl)
    have HOA := Lib.hid hoA
    clear hlg hb0 ha0 ho0 hoA hge hk2
    go_wp2_with (fail)
    refine (New_any B bl bc w2 (HB.out.fresh HL.out.k) (by omega)).mono ?_
    rintro e w3 (⟨-, q, M, rfl, hlg, hb0, ha0, ho0, hoA, hge, hk3⟩ | ⟨hcb2, -⟩)
    rotate_left
    · exact absurd hcb hcb2
    have HT := Lib.hid (show TwoLogs w p q L M w3 from ⟨HL.out.fresh hk3, LogOf.made hlg (HL.out.k.trans hk3 fun _ _ e => e) (Nat.le_trans HL.out.k.size hge) hoA, by have := HL.out.l.box.lt; omega, fun k h => by unfold Lg.oV at h; rw [HOA.out] at h; cases h⟩)
    have HDD := Lib.hid (show L.d = M.d by rw [HD.out]; unfold Lg.d; rw [hb0, ha0, ho0]; rfl)
    have HLL := Lib.hid (show L.ops.length ≤ 0 by have := congrArg (fun P : Pl => P.ops.length) HD.out; exact Nat.le_of_eq (by simpa [Lg.d] using this))
    clear hcb hlg hb0 ha0 ho0 hoA hge hk3 HL HD HOA
    go_wp2_with (fail)
    go_loopw [12] (fun i wr => ∃ (k : Nat) (L M : Lg), i = .int .i64 k ∧ k ≤ l.length ∧ L.ops.length ≤ k ∧ L.d = M.d ∧ TwoLogs w p q L M wr) (fun i _ => l.length - (intOf i).toNat)
    case atStart => exact ⟨0, L, M, rfl, Nat.zero_le _, HLL.out, HDD.out, HT.out⟩
    case round =>
      obtain ⟨k, L, M, rfl, hk, hlk, hdd, htw⟩ := hrel
      have HTW := Lib.hid htw
      have HDE := Lib.hid hdd
      clear HT HDD HLL
      by_cases hlt : k < l.length
      · obtain ⟨ad, rfl, x0, x1, x2⟩ := (HS.out.steps.fresh htw.l.k) k hlt
        have HOKK := Lib.hid (HOK.out l[k] (List.getElem_mem hlt))
        have HST := Lib.hid (HS.out.steps)
        obtain ⟨s, hs⟩ : ∃ s, l[k] = s := ⟨_, rfl⟩
        have HSK := Lib.hid hs
        rw [hs] at x0 x1 x2 HOKK
        have X0 := Lib.hid x0
        have X1 := Lib.hid x1
        have X2 := Lib.hid x2
        have hlm := d_len hdd
        clear x0 x1 x2 hs htw hdd
        go_wp2_with (refine load_stp rfl _ rfl _ rfl s X0.out X1.out X2.out ?_)
        refine (do_any w wr p L s HTW.out.l HOKK.out (by omega)).mono ?_
        rintro e w4 ⟨⟨v, rfl⟩, L', hd, hlo', hk4, hg4⟩
        have HT4 := Lib.hid (HTW.out.turnL hlo' hk4 hg4)
        have HD4 := Lib.hid hd
        obtain ⟨ad', e1, x0, x1, x2⟩ := (HST.out.fresh hlo'.k) k hlt
        injection e1 with e1
        subst e1
        rw [HSK.out] at x0 x1 x2
        have Y0 := Lib.hid x0
        have Y1 := Lib.hid x1
        have Y2 := Lib.hid x2
        clear hd hlo' hk4 hg4 x0 x1 x2 X0 X1 X2 HTW
        go_wp2_with (refine load_stp rfl _ rfl _ rfl s Y0.out Y1.out Y2.out ?_)
        refine (do_any w w4 q M s HT4.out.m HOKK.out (by omega)).mono ?_
        rintro e w5 ⟨⟨v, rfl⟩, M', hd, hlo', hk5, hg5⟩
        have HT5 := Lib.hid (HT4.out.turnR hlo' hk5 hg5)
        have HD5 := Lib.hid (show L'.d = M'.d by rw [HD4.out, hd, HDE.out])
        have hll : L'.ops.length ≤ k + 1 := by
          have h1 := L.d.step_len s.kind s.x.o s.v
          rw [← HD4.out] at h1
          simp only [Lg.d, List.length_map] at h1
          omega
        clear hd hlo' hk5 hg5 Y0 Y1 Y2 HT4 HD4 HOKK HDE HSK
        go_wp2_with (fail)
        go_roundw
        case rel => exact ⟨k + 1, L', M', by go_num, by omega, hll, HD5.out, HT5.out⟩
        case measure => simp [intOf]; omega
      · obtain rfl : k = l.length := by omega
        have hll : L.ops.length ≤ 200 := by omega
        have hal := HTW.out.l.l.al
        clear hlk hk hlt htw hdd
        go_wp2_with (fail)
        refine (Beyond_any p L none [] 0 wr HTW.out.l.l (fun k h => absurd h (by simp)) (by simp)).mono ?_
        rintro e w3 ⟨IB, IA, ic, rfl, hit, -, -, hk3⟩
        rw [lacks_none] at hit
        have HT3 := Lib.hid (HTW.out.fresh hk3)
        have HIT := Lib.hid hit
        clear hk3 HTW hit
        go_wp2_with (fail)
        refine (rest_any IB _ IA ic 201 w3 HIT.out (by decide) (by decide)).mono ?_
        rintro e w4 ⟨ws, WA, wc, rfl, hws, hrow, hlan, hk4⟩
        rw [List.take_of_length_le (by rw [List.length_map]; omega)] at hws
        have HWS := Lib.hid (show ws.map (·.o) = L.d.ops from hws)
        have hwl : ws.length ≤ 200 := by have := congrArg List.length hws; rw [List.length_map, List.length_map] at this; omega
        have HSL := Lib.hid (show ∀ z ∈ L.ops, z.o.deps.length ≤ 1000000 ∧ z.o.gone.length ≤ 1000000 from fun z hz => ⟨(HT3.out.l.l.small z hz).dl, (HT3.out.l.l.small z hz).gl⟩)
        have HA := Lib.hid (CuA.made HT3.out hk4 hrow hlan)
        clear hws hrow hlan hk4 HT3 HIT
        go_wp2_with (fail)
        refine (Vector_any p L w4 HA.out.t.l.l).mono ?_
        rintro e w8 ⟨VA, vc, rfl, hv, hk8⟩
        have HZ := Lib.hid (HA.out.other hk8 hv)
        obtain ⟨vl, hvl⟩ : ∃ vl, L.all = vl := ⟨_, rfl⟩
        have HALL := Lib.hid hvl
        rw [hvl] at HZ hal
        rw [hvl]
        clear hv hk8 HA hvl
        by_cases hca : cutErr L a = 0
        · have Fa := Lib.hid (cut_yes_facts (V := vl) HALL.out hca)
          have Ca := Lib.hid hca
          clear hca
          go_wp2_with (fail)
          refine (Cut_yes p L XA a ac w8 HZ.out.t.l.l (HXA.out.fresh HZ.out.t.l.k) (by omega) (fun h0 a ha => older HZ.out.t HXA.out h0 a ha) Ca.out).mono ?_
          rintro e w101 ⟨L1, xs, xsA, xsc, rfl, hgs, -, -, hlg, hb1, ha1, ho1, hkq, hgo⟩
          have HY' := Lib.hid (HZ.out.turnL (HZ.out.t.l.turn hlg hkq hgo) hkq hgo)
          have Hxs := Lib.hid (cut_d Ca.out hb1 ha1 ho1)
          have Hxsn := Lib.hid (cut_len hgs)
          have HAL' := Lib.hid (show L1.all = vl from ha1.trans HALL.out)
          clear hgs hlg hb1 ha1 ho1 hkq hgo HZ HALL
          have HZ := Lib.hid HY'.out
          have HALL := Lib.hid HAL'.out
          clear HY' HAL'
          by_cases hcb : cutErr L1 b = 0
          · have Fb := Lib.hid (cut_yes_facts (V := vl) HALL.out hcb)
            have Cb := Lib.hid hcb
            clear hcb
            go_wp2_with (fail)
            refine (Cut_yes p L1 YA b bbc w101 HZ.out.t.l.l (HYB.out.fresh HZ.out.t.l.k) (by omega) (fun h0 a ha => older HZ.out.t HYB.out h0 a ha) Cb.out).mono ?_
            rintro e w102 ⟨L2, ys, ysA, ysc, rfl, hgs, -, -, hlg, hb1, ha1, ho1, hkq, hgo⟩
            have HY' := Lib.hid (HZ.out.turnL (HZ.out.t.l.turn hlg hkq hgo) hkq hgo)
            have Hys := Lib.hid (cut_d Cb.out hb1 ha1 ho1)
            have Hysn := Lib.hid (cut_len hgs)
            have HAL' := Lib.hid (show L2.all = vl from ha1.trans HALL.out)
            clear hgs hlg hb1 ha1 ho1 hkq hgo HZ HALL
            have HZ := Lib.hid HY'.out
            have HALL := Lib.hid HAL'.out
            clear HY' HAL'
            go_wp2_with (fail)
            refine (RCheck_any XA a ac w102 (HXA.out.fresh HZ.out.t.l.k) (by omega)).mono ?_
            unfold IntPost
            rw [Fa.out.1]
            rintro e w103 ⟨rfl, hkq⟩
            have HY' := Lib.hid (HZ.out.fresh hkq)
            clear hkq HZ
            have HZ := Lib.hid HY'.out
            clear HY'
            go_wp2_with (fail)
            refine (RCovers_any VA XA vl a vc ac w103 (DotsAt.of_own HZ.out.v) (HXA.out.fresh HZ.out.t.l.k) (by omega) (by omega)).mono ?_
            unfold BoolPost
            rw [Fa.out.2]
            rintro e w104 ⟨rfl, hkq⟩
            have HY' := Lib.hid (HZ.out.fresh hkq)
            clear hkq HZ
            have HZ := Lib.hid HY'.out
            clear HY'
            go_wp2_with (fail)
            refine (RCheck_any YA b bbc w104 (HYB.out.fresh HZ.out.t.l.k) (by omega)).mono ?_
            unfold IntPost
            rw [Fb.out.1]
            rintro e w105 ⟨rfl, hkq⟩
            have HY' := Lib.hid (HZ.out.fresh hkq)
            clear hkq HZ
            have HZ := Lib.hid HY'.out
            clear HY'
            go_wp2_with (fail)
            refine (RCovers_any VA YA vl b vc bbc w105 (DotsAt.of_own HZ.out.v) (HYB.out.fresh HZ.out.t.l.k) (by omega) (by omega)).mono ?_
            unfold BoolPost
            rw [Fb.out.2]
            rintro e w106 ⟨rfl, hkq⟩
            have HY' := Lib.hid (HZ.out.fresh hkq)
            clear hkq HZ
            have HZ := Lib.hid HY'.out
            clear HY'
            go_wp2_with (fail)
            refine (Vector_any p L2 w106 HZ.out.t.l.l).mono ?_
            rintro e w107 hf
            obtain ⟨VA2, vc2, rfl, hdv, hkq⟩ := hf.at
            have HY' := Lib.hid (HZ.out.fresh hkq)
            have HV2 := Lib.hid hdv
            clear hf hdv hkq HZ
            have HZ := Lib.hid HY'.out
            clear HY'
            go_wp2_with (fail)
            refine (vectors_any VA2 VA L2.all vl vc2 vc w107 HV2.out (DotsAt.of_own HZ.out.v) (by have := HZ.out.t.l.l.al; omega)).mono ?_
            unfold SamePost
            rw [decide_eq_true HALL.out]
            rintro e w108 ⟨rfl, hkq⟩
            have HY' := Lib.hid (HZ.out.fresh hkq)
            clear hkq HZ
            have HZ := Lib.hid HY'.out
            clear HY'
            go_wp2_with (fail)
            have hme := RMerge_any XA YA a b ac bbc w108 (HXA.out.fresh HZ.out.t.l.k) (HYB.out.fresh HZ.out.t.l.k) (by omega) (by omega)
            obtain ⟨bo, hbo⟩ : ∃ bo, vec (maxR (says a) (says b)) = bo := ⟨_, rfl⟩
            have hbol : bo.length ≤ 1000000 := by rw [← hbo]; have := vecTo_len (maxR (says a) (says b)) 17; unfold vec; omega
            rw [hbo] at hme
            have HBO := Lib.hid (show bothV a b = bo from hbo)
            clear hbo
            refine hme.mono ?_
            rintro e w200 ⟨CA, cc, rfl, hown, hkq⟩
            have HCM := Lib.hid (newer HZ.out.t.m.l hown)
            have HY' := Lib.hid (HZ.out.other hkq hown)
            clear hme hown hkq HZ
            have HZ := Lib.hid HY'.out
            clear HY'
            have HCE := Lib.hid (both_zero HDE.out Ca.out Hxs.out Cb.out HBO.out)
            go_wp2_with (fail)
            refine (Cut_yes q M CA bo cc w200 HZ.out.t.m.l (DotsAt.of_own HZ.out.v) hbol (fun _ => HCM.out) HCE.out).mono ?_
            rintro e w201 ⟨M1, zs, ZA, zc, rfl, hgs, hzrow, hzlan, hlg, hb1, ha1, ho1, hkq, hgo⟩
            have HY' := Lib.hid (HZ.out.turnR (HZ.out.t.m.turn hlg hkq hgo) hkq hgo)
            have HZR := Lib.hid (RowAt.of hzrow hzlan)
            have HPL := Lib.hid (both_cut HDE.out Ca.out Hxs.out Cb.out Hys.out HBO.out (cut_d HCE.out hb1 ha1 ho1) Hxsn.out Hysn.out (cut_len hgs) HWS.out)
            clear hgs hzrow hzlan hlg hb1 ha1 ho1 hkq hgo HZ HCE HCM HDE Ca Cb Fa Fb Hxs Hys Hxsn Hysn HBO HALL
            have HZ := Lib.hid HY'.out
            clear HY'
            have hzl : zs.length ≤ 200 := by have := HPL.out.2.2.1; omega
            have hml : M1.ops.length ≤ 200 := by have := HPL.out.2.2.1; omega
            have HLM := Lib.hid (d_len HPL.out.1)
            have f1 : IntKind.i64.wrap ((xs.length : Int) + (ys.length : Int)) = (zs.length : Int) := by have := HPL.out.2.1; rw [IntWalk.i64_in _ ⟨by omega, by omega⟩]; omega
            have f2 : IntKind.i64.wrap ((zs.length : Int) + (M1.ops.length : Int)) = (ws.length : Int) := by have := HPL.out.2.2.1; rw [IntWalk.i64_in _ ⟨by omega, by omega⟩]; omega
            go_wp2_with (fail)
            refine (Base_any p L2 w201 HZ.out.t.l.l).mono ?_
            rintro e w202 hf
            obtain ⟨B2, bc2, rfl, hdb, hkq⟩ := hf.at
            have HZ2 := Lib.hid (HZ.out.fresh hkq)
            have HZR2 := Lib.hid (HZR.out.fresh hkq)
            have HB2 := Lib.hid hdb
            clear hf hdb hkq HZ HZR
            go_wp2_with (fail)
            refine (Base_any q M1 w202 HZ2.out.t.m.l).mono ?_
            rintro e w203 hf
            obtain ⟨B3, bc3, rfl, hdb, hkq⟩ := hf.at
            have HZ3 := Lib.hid (HZ2.out.fresh hkq)
            have HZR3 := Lib.hid (HZR2.out.fresh hkq)
            have HB3 := Lib.hid hdb
            have HB23 := Lib.hid (HB2.out.fresh hkq)
            clear hf hdb hkq HZ2 HZR2 HB2
            have HBE := Lib.hid (show L2.base = M1.base from congrArg Pl.base HPL.out.1)
            go_wp2_with (fail)
            refine (vectors_any B2 B3 L2.base M1.base bc2 bc3 w203 HB23.out HB3.out (by have := HZ3.out.t.l.l.bl; omega)).mono ?_
            unfold SamePost
            rw [decide_eq_true HBE.out]
            rintro e w204 ⟨rfl, hkq⟩
            have HZ4 := Lib.hid (HZ3.out.fresh hkq)
            have HZR4 := Lib.hid (HZR3.out.fresh hkq)
            clear hkq HZ3 HZR3 HB23 HB3 HBE
            go_wp2_with (fail)
            refine (Len_any p L2 w204 HZ4.out.t.l.l).mono ?_
            unfold IntPost
            rw [HLM.out]
            rintro e w205 ⟨rfl, hkq⟩
            have HZ5 := Lib.hid (HZ4.out.fresh hkq)
            have HZR5 := Lib.hid (HZR4.out.fresh hkq)
            clear hkq HZ4 HZR4
            go_wp2_with (fail)
            refine (Len_any q M1 w205 HZ5.out.t.m.l).mono ?_
            unfold IntPost
            rintro e w206 ⟨rfl, hkq⟩
            have HZ6 := Lib.hid (HZ5.out.fresh hkq)
            have HZR6 := Lib.hid (HZR5.out.fresh hkq)
            clear hkq HZ5 HZR5
            go_wp2_with (fail)
            refine (Len_any q M1 w206 HZ6.out.t.m.l).mono ?_
            unfold IntPost
            rintro e w207 ⟨rfl, hkq⟩
            have HZ7 := Lib.hid (HZ6.out.fresh hkq)
            have HZR7 := Lib.hid (HZR6.out.fresh hkq)
            clear hkq HZ6 HZR6
            go_wp2_with (fail)
            clear f1 f2
            refine (Beyond_any p L2 none [] 0 w207 HZ7.out.t.l.l (fun k h => absurd h (by simp)) (by simp)).mono ?_
            rintro e w208 ⟨IB2, IA2, ic2, rfl, hit, -, -, hkq⟩
            rw [lacks_none] at hit
            have HZ8 := Lib.hid (HZ7.out.fresh hkq)
            have HZR8 := Lib.hid (HZR7.out.fresh hkq)
            have HIT := Lib.hid hit
            clear hkq HZ7 HZR7 hit
            go_wp2_with (fail)
            refine (rest_any IB2 _ IA2 ic2 201 w208 HIT.out (by decide) (by decide)).mono ?_
            rintro e w209 ⟨ls, LA, lc, rfl, hls, hrow, hlan, hkq⟩
            rw [List.take_of_length_le (by have := HLM.out; rw [List.length_map]; omega)] at hls
            have HLS := Lib.hid (show ls.map (·.o) = (ws.map (·.o)).filter (fun o => !hasV bo o.dot) from (hls.trans (congrArg Pl.ops HPL.out.1)).trans HPL.out.2.2.2.2)
            have HLE := Lib.hid (show ls.map (·.o) = M1.ops.map (·.o) from hls.trans (congrArg Pl.ops HPL.out.1))
            have HZS := Lib.hid HPL.out.2.2.2.1
            have HZ9 := Lib.hid (HZ8.out.fresh hkq)
            have HZR9 := Lib.hid (HZR8.out.fresh hkq)
            have HLR9 := Lib.hid (RowAt.of hrow hlan)
            clear hls hrow hlan hkq HZ8 HZR8 HIT HPL HLM
            have hlsl : ls.length ≤ 200 := by have := congrArg List.length HLE.out; rw [List.length_map, List.length_map] at this; omega
            go_wp2_with (fail)
            refine (Beyond_any q M1 none [] 0 w209 HZ9.out.t.m.l (fun k h => absurd h (by simp)) (by simp)).mono ?_
            rintro e w210 ⟨IB3, IA3, ic3, rfl, hit, -, -, hkq⟩
            rw [lacks_none] at hit
            have HZ10 := Lib.hid (HZ9.out.fresh hkq)
            have HZR10 := Lib.hid (HZR9.out.fresh hkq)
            have HLR10 := Lib.hid (HLR9.out.fresh hkq)
            have HIT := Lib.hid hit
            clear hkq HZ9 HZR9 HLR9 hit
            go_wp2_with (fail)
            refine (rest_any IB3 _ IA3 ic3 201 w210 HIT.out (by decide) (by decide)).mono ?_
            rintro e w211 ⟨rs, RA, rc, rfl, hrs, hrow, hlan, hkq⟩
            rw [List.take_of_length_le (by rw [List.length_map]; omega)] at hrs
            have HRE := Lib.hid (hrs.trans HLE.out.symm)
            have HSM := Lib.hid (show ∀ y ∈ ls, y.o.deps.length ≤ 1000000 ∧ y.o.gone.length ≤ 1000000 from fun y hy => by
              have h1 : y.o ∈ M1.ops.map (·.o) := by rw [← HLE.out]; exact List.mem_map_of_mem hy
              obtain ⟨z, hz, he⟩ := List.mem_map.1 h1
              rw [← he]
              exact ⟨(HZ10.out.t.m.l.small z hz).dl, (HZ10.out.t.m.l.small z hz).gl⟩)
            have HZ11 := Lib.hid (HZ10.out.fresh hkq)
            have HZR11 := Lib.hid (HZR10.out.fresh hkq)
            have HLR11 := Lib.hid (HLR10.out.fresh hkq)
            have HRR11 := Lib.hid (RowAt.of hrow hlan)
            clear hrs hrow hlan hkq HZ10 HZR10 HLR10 HIT HLE
            go_wp2_with (fail)
            refine (ops_true LA RA ls rs lc rc w211 HLR11.out HRR11.out HRE.out (by omega) HSM.out).mono ?_
            unfold BoolPost
            rintro e w212 ⟨rfl, hkq⟩
            have HE := Lib.hid (show CuE w WA wc ws ZA zc zs LA lc ls CA bo w212 from ⟨(HZ11.out.fresh hkq).t.l.k, (HZ11.out.fresh hkq).row, HZR11.out.fresh hkq, HLR11.out.fresh hkq, DotsAt.of_own (HZ11.out.fresh hkq).v⟩)
            have HSW := Lib.hid (show ∀ y ∈ ws, y.o.deps.length ≤ 1000000 ∧ y.o.gone.length ≤ 1000000 from fun y hy => by
              have h1 : y.o ∈ L.d.ops := by rw [← HWS.out]; exact List.mem_map_of_mem hy
              obtain ⟨z, hz, he⟩ := List.mem_map.1 h1
              rw [← he]
              exact HSL.out z hz)
            clear hkq HZ11 HZR11 HLR11 HRR11 HRE HSM HWS
            go_wp2_with (fail)
            clear hll hml
            obtain ⟨wo, rfl⟩ : ∃ wo : World, wo = wr := ⟨_, rfl⟩
            go_loopw [25, 23, 24] (fun i n k wr => ∃ j : Nat, i = .int .i64 j ∧ j ≤ ws.length ∧ n = .int .i64 (kcnt (fun o => hasV bo o.dot) ws j) ∧ k = .int .i64 (kcnt (fun o => !hasV bo o.dot) ws j) ∧ Kept (fun _ => False) w212 wr) (fun i _ _ _ => ws.length - (intOf i).toNat)
            case atStart => exact ⟨0, rfl, Nat.zero_le _, rfl, rfl, Kept.refl _ _⟩
            case round =>
              obtain ⟨j, rfl, hj, rfl, rfl, hkk⟩ := hrel
              have HK1' := Lib.hid hkk
              clear hkk
              by_cases hlt : j < ws.length
              · have hrow := (HE.out.fresh HK1'.out).r.row
                obtain ⟨gr, cap, hv, _⟩ := World.ownsRow.form hrow (by omega)
                injection hv with e1 _ e3
                clear e3
                subst e1
                obtain ⟨y, hy⟩ : ∃ y, ws[j] = y := ⟨_, rfl⟩
                have HYW := Lib.hid hy
                have HYM := Lib.hid (show y ∈ ws by rw [← hy]; exact List.getElem_mem hlt)
                have x0 : wr.cell? ⟨gr, j * 11, none⟩ = some (.int .i64 y.o.dot.site) := by have := row_cell hrow j hlt 0 _ rfl; rw [hy] at this; exact this
                have x1 : wr.cell? ⟨gr, j * 11 + 1, none⟩ = some (.int .i64 y.o.dot.seq) := by have := row_cell hrow j hlt 1 _ rfl; rw [hy] at this; exact this
                have hj0 : (0 : Int) ≤ (j : Int) := by omega
                have hjn : (j : Int) < (ws.length : Int) := by omega
                clear hrow hy
                go_wp2_with (fail)
                refine (RHas_any CA bo cc y.o.dot _ (HE.out.fresh HK1'.out).b (by omega)).mono ?_
                unfold BoolPost
                rintro e w2 ⟨rfl, hk2⟩
                have HK2 := Lib.hid (HK1'.out.trans hk2 fun _ _ e => e)
                clear hk2 HK1' x0 x1
                cases hh : hasV bo y.o.dot with
                | true =>
                  have HH := Lib.hid hh
                  have hsel : (fun o => hasV bo o.dot) ws[j].o = true := by rw [HYW.out]; exact hh
                  clear hh
                  obtain ⟨n, hn⟩ : ∃ n, kcnt (fun o => hasV bo o.dot) ws j = n := ⟨_, rfl⟩
                  obtain ⟨hnz, hzo⟩ := pick_n (f := (fun o => hasV bo o.dot)) HZS.out j hlt hsel n hn
                  simp only [hn]
                  have HN := Lib.hid hn
                  clear hn
                  have hzr := (HE.out.fresh HK2.out).z.row
                  obtain ⟨gz, capz, hvz, _⟩ := World.ownsRow.form hzr (by omega)
                  injection hvz with ez _ ez3
                  clear ez3
                  subst ez
                  obtain ⟨z, hz⟩ : ∃ z, zs[n] = z := ⟨_, rfl⟩
                  have hzm : z ∈ zs := by rw [← hz]; exact List.getElem_mem hnz
                  have hzy : y.o = z.o := by rw [← hz, hzo, HYW.out]
                  have HSAME := Lib.hid (fun W (hW : Kept (fun _ => False) w2 W) => same_true z y W ((HE.out.z.ats z hzm).fresh (HK2.out.trans hW fun _ _ e => e)) ((HE.out.r.ats y HYM.out).fresh (HK2.out.trans hW fun _ _ e => e)) hzy (by rw [← hzy]; exact (HSW.out y HYM.out).1) (by rw [← hzy]; exact (HSW.out y HYM.out).2))
                  have HRY := Lib.hid (fun W (hW : Kept (fun _ => False) w2 W) => show W.ownsRow 0 45 11 (.slice (some ⟨gr, 0, none⟩) ws.length wc) ws.length (lops ws) by have := (HE.out.fresh (HK2.out.trans hW fun _ _ e => e)).r.row; exact this)
                  have HRZ := Lib.hid (fun W (hW : Kept (fun _ => False) w2 W) => show W.ownsRow 0 45 11 (.slice (some ⟨gz, 0, none⟩) zs.length zc) zs.length (lops zs) by have := (HE.out.fresh (HK2.out.trans hW fun _ _ e => e)).z.row; exact this)
                  obtain ⟨cs, hcs⟩ : ∃ cs, y.c = cs := ⟨_, rfl⟩
                  obtain ⟨ds, hds⟩ : ∃ ds, z.c = ds := ⟨_, rfl⟩
                  have HYC := Lib.hid (show ws[j].c = cs by rw [HYW.out, hcs])
                  have HZC := Lib.hid (show zs[n].c = ds by rw [hz, hds])
                  rw [hcs, hds] at HSAME
                  clear hcs hds hzm hzy hz hzr hzo hsel
                  have hn0 : (0 : Int) ≤ (n : Int) := by omega
                  have hnn : (n : Int) < (zs.length : Int) := by omega
                  have hnf : ¬ ((zs.length : Int) ≤ (n : Int)) := by omega
                  go_wp2_with (fail)
                  as_aux_lemma =>
                    refine wp_region_held_drew (S := fun W => Kept (fun _ => False) w2 W) (by kernel_rfl) (Kept.refl _ _).drew fun hS => ?_
                    generalize World.drew _ = w6 at hS ⊢
                    refine held_takeTo 198 (i := 0) (v := .int .i64 n) rfl rfl (by kernel_rfl) (by kernel_rfl) (by kernel_rfl) (fun _ _ _ h => h) rfl hS (fun W hW => by go_simp) ?_
                    simp only [List.setIfInBounds_toArray, List.set_cons_zero, List.set_cons_succ]
                    refine held_takeTo 199 (i := 1) (v := .slice (some ⟨gz, 0, none⟩) zs.length zc) rfl rfl (by kernel_rfl) (by kernel_rfl) (by kernel_rfl) (fun _ _ _ h => h) rfl hS (fun W hW => by go_simp) ?_
                    simp only [List.setIfInBounds_toArray, List.set_cons_zero, List.set_cons_succ]
                    refine held_takeTo 200 (i := 2) (v := .int .i64 zs.length) rfl rfl (by kernel_rfl) (by kernel_rfl) (by kernel_rfl) (fun _ _ _ h => h) rfl hS (fun W hW => by go_simp) ?_
                    simp only [List.setIfInBounds_toArray, List.set_cons_zero, List.set_cons_succ]
                    refine held_takeTo 201 (i := 3) (v := .bool false) rfl rfl (by kernel_rfl) (by kernel_rfl) (by kernel_rfl) (fun _ _ _ h => h) rfl hS (fun W hW => by go_simp) ?_
                    simp only [List.setIfInBounds_toArray, List.set_cons_zero, List.set_cons_succ]
                    refine held_takeTo 202 (i := 4) (v := .bool false) rfl rfl (by kernel_rfl) (by kernel_rfl) (by kernel_rfl) (fun _ _ _ h => h) rfl hS (fun W hW => by go_simp) ?_
                    simp only [List.setIfInBounds_toArray, List.set_cons_zero, List.set_cons_succ]
                    refine held_takeG 203 (i := 5) (v := .slice (some ⟨gz, 0, none⟩) zs.length zc) rfl rfl (by kernel_rfl) (by kernel_rfl) (by kernel_rfl) (fun _ _ _ h => h) (by rfl) hS (fun W hW => by go_simp) ?_
                    simp only [List.setIfInBounds_toArray, List.set_cons_zero, List.set_cons_succ]
                    refine held_takeG 204 (i := 6) (v := .int .i64 n) rfl rfl (by kernel_rfl) (by kernel_rfl) (by kernel_rfl) (fun _ _ _ h => h) (by rfl) hS (fun W hW => by go_simp) ?_
                    simp only [List.setIfInBounds_toArray, List.set_cons_zero, List.set_cons_succ]
                    refine held_takeG 205 (i := 7) (v := .pointer (some ⟨gz, n * 11, none⟩)) rfl rfl (by kernel_rfl) (by kernel_rfl) (by kernel_rfl) (fun _ _ _ h => h) (by rfl) hS (fun W hW => by go_simp) ?_
                    simp only [List.setIfInBounds_toArray, List.set_cons_zero, List.set_cons_succ]
                    refine held_takeG 206 (i := 8) (v := .agg ds) rfl rfl (by kernel_rfl) (by kernel_rfl) (by kernel_rfl) (fun _ _ _ h => h) (by rfl) hS (fun W hW => run_load_row _ _ rfl gz n rfl zs (HRZ.out W hW) hnz ds HZC.out) ?_
                    simp only [List.setIfInBounds_toArray, List.set_cons_zero, List.set_cons_succ]
                    refine held_takeG 207 (i := 9) (v := .slice (some ⟨gr, 0, none⟩) ws.length wc) rfl rfl (by kernel_rfl) (by kernel_rfl) (by kernel_rfl) (fun _ _ _ h => h) (by rfl) hS (fun W hW => by go_simp) ?_
                    simp only [List.setIfInBounds_toArray, List.set_cons_zero, List.set_cons_succ]
                    refine held_takeG 208 (i := 10) (v := .int .i64 j) rfl rfl (by kernel_rfl) (by kernel_rfl) (by kernel_rfl) (fun _ _ _ h => h) (by rfl) hS (fun W hW => by go_simp) ?_
                    simp only [List.setIfInBounds_toArray, List.set_cons_zero, List.set_cons_succ]
                    refine held_takeG 209 (i := 11) (v := .pointer (some ⟨gr, j * 11, none⟩)) rfl rfl (by kernel_rfl) (by kernel_rfl) (by kernel_rfl) (fun _ _ _ h => h) (by rfl) hS (fun W hW => by go_simp) ?_
                    simp only [List.setIfInBounds_toArray, List.set_cons_zero, List.set_cons_succ]
                    refine held_takeG 210 (i := 12) (v := .agg cs) rfl rfl (by kernel_rfl) (by kernel_rfl) (by kernel_rfl) (fun _ _ _ h => h) (by rfl) hS (fun W hW => run_load_row _ _ rfl gr j rfl ws (HRY.out W hW) hlt cs HYC.out) ?_
                    simp only [List.setIfInBounds_toArray, List.set_cons_zero, List.set_cons_succ]
                    refine held_one (i := 13) (by kernel_rfl) rfl fun K hK => ?_
                    go_wp2_with (fail)
                    refine (HSAME.out w6 hS).mono ?_
                    unfold BoolPost
                    rintro e w7 ⟨rfl, hk7⟩
                    have hS7 := hS.trans hk7 fun _ _ e => e
                    clear hk7
                    go_wp2_with (fail)
                    refine hK.out _ _ hS7 fun _ => ?_
                    clear hK K
                    refine held_one (i := 14) (by kernel_rfl) rfl fun K hK => ?_
                    go_wp2_with (fail)
                    refine hK.out _ _ hS7 fun _ => ?_
                    clear hK K
                    refine held_one (i := 15) (by kernel_rfl) rfl fun K hK => ?_
                    go_wp2_with (fail)
                    refine hK.out _ _ hS7 fun _ => ?_
                    clear hK K
                    refine wpAnyH_done (by kernel_rfl) ?_ _
                    have HS7 := Lib.hid (HK2.out.trans hS7 fun _ _ e => e)
                    clear hS7 hS
                    go_wp2_with (fail)
                    go_roundw
                    case rel => exact ⟨j + 1, by go_num, by omega, by rw [kcnt_up _ _ _ hlt, if_pos (by show hasV bo ws[j].o.dot = true; rw [HYW.out]; exact HH.out), HN.out]; go_num, by rw [kcnt_up _ _ _ hlt, if_neg (by show ¬ (!hasV bo ws[j].o.dot) = true; rw [HYW.out, HH.out]; decide), Nat.add_zero], HS7.out⟩
                    case measure => simp [intOf]; omega
                | false =>
                  have HH := Lib.hid hh
                  have hsel : (fun o => !hasV bo o.dot) ws[j].o = true := by show (!hasV bo ws[j].o.dot) = true; rw [HYW.out, hh]; rfl
                  clear hh
                  obtain ⟨kk, hn⟩ : ∃ n, kcnt (fun o => !hasV bo o.dot) ws j = n := ⟨_, rfl⟩
                  obtain ⟨hnz, hzo⟩ := pick_n (f := (fun o => !hasV bo o.dot)) HLS.out j hlt hsel kk hn
                  simp only [hn]
                  have HN := Lib.hid hn
                  clear hn
                  have hzr := (HE.out.fresh HK2.out).l.row
                  obtain ⟨gz, capz, hvz, _⟩ := World.ownsRow.form hzr (by omega)
                  injection hvz with ez _ ez3
                  clear ez3
                  subst ez
                  obtain ⟨z, hz⟩ : ∃ z, ls[kk] = z := ⟨_, rfl⟩
                  have hzm : z ∈ ls := by rw [← hz]; exact List.getElem_mem hnz
                  have hzy : y.o = z.o := by rw [← hz, hzo, HYW.out]
                  have HSAME := Lib.hid (fun W (hW : Kept (fun _ => False) w2 W) => same_true z y W ((HE.out.l.ats z hzm).fresh (HK2.out.trans hW fun _ _ e => e)) ((HE.out.r.ats y HYM.out).fresh (HK2.out.trans hW fun _ _ e => e)) hzy (by rw [← hzy]; exact (HSW.out y HYM.out).1) (by rw [← hzy]; exact (HSW.out y HYM.out).2))
                  have HRY := Lib.hid (fun W (hW : Kept (fun _ => False) w2 W) => show W.ownsRow 0 45 11 (.slice (some ⟨gr, 0, none⟩) ws.length wc) ws.length (lops ws) by have := (HE.out.fresh (HK2.out.trans hW fun _ _ e => e)).r.row; exact this)
                  have HRZ := Lib.hid (fun W (hW : Kept (fun _ => False) w2 W) => show W.ownsRow 0 45 11 (.slice (some ⟨gz, 0, none⟩) ls.length lc) ls.length (lops ls) by have := (HE.out.fresh (HK2.out.trans hW fun _ _ e => e)).l.row; exact this)
                  obtain ⟨cs, hcs⟩ : ∃ cs, y.c = cs := ⟨_, rfl⟩
                  obtain ⟨ds, hds⟩ : ∃ ds, z.c = ds := ⟨_, rfl⟩
                  have HYC := Lib.hid (show ws[j].c = cs by rw [HYW.out, hcs])
                  have HZC := Lib.hid (show ls[kk].c = ds by rw [hz, hds])
                  rw [hcs, hds] at HSAME
                  clear hcs hds hzm hzy hz hzr hzo hsel
                  have hn0 : (0 : Int) ≤ (kk : Int) := by omega
                  have hnn : (kk : Int) < (ls.length : Int) := by omega
                  have hnf : ¬ ((ls.length : Int) ≤ (kk : Int)) := by omega
                  go_wp2_with (fail)
                  as_aux_lemma =>
                    refine wp_region_held_drew (S := fun W => Kept (fun _ => False) w2 W) (by kernel_rfl) (Kept.refl _ _).drew fun hS => ?_
                    generalize World.drew _ = w6 at hS ⊢
                    refine held_takeTo 216 (i := 0) (v := .int .i64 kk) rfl rfl (by kernel_rfl) (by kernel_rfl) (by kernel_rfl) (fun _ _ _ h => h) rfl hS (fun W hW => by go_simp) ?_
                    simp only [List.setIfInBounds_toArray, List.set_cons_zero, List.set_cons_succ]
                    refine held_takeTo 217 (i := 1) (v := .slice (some ⟨gz, 0, none⟩) ls.length lc) rfl rfl (by kernel_rfl) (by kernel_rfl) (by kernel_rfl) (fun _ _ _ h => h) rfl hS (fun W hW => by go_simp) ?_
                    simp only [List.setIfInBounds_toArray, List.set_cons_zero, List.set_cons_succ]
                    refine held_takeTo 218 (i := 2) (v := .int .i64 ls.length) rfl rfl (by kernel_rfl) (by kernel_rfl) (by kernel_rfl) (fun _ _ _ h => h) rfl hS (fun W hW => by go_simp) ?_
                    simp only [List.setIfInBounds_toArray, List.set_cons_zero, List.set_cons_succ]
                    refine held_takeTo 219 (i := 3) (v := .bool false) rfl rfl (by kernel_rfl) (by kernel_rfl) (by kernel_rfl) (fun _ _ _ h => h) rfl hS (fun W hW => by go_simp) ?_
                    simp only [List.setIfInBounds_toArray, List.set_cons_zero, List.set_cons_succ]
                    refine held_takeTo 220 (i := 4) (v := .bool false) rfl rfl (by kernel_rfl) (by kernel_rfl) (by kernel_rfl) (fun _ _ _ h => h) rfl hS (fun W hW => by go_simp) ?_
                    simp only [List.setIfInBounds_toArray, List.set_cons_zero, List.set_cons_succ]
                    refine held_takeG 221 (i := 5) (v := .slice (some ⟨gz, 0, none⟩) ls.length lc) rfl rfl (by kernel_rfl) (by kernel_rfl) (by kernel_rfl) (fun _ _ _ h => h) (by rfl) hS (fun W hW => by go_simp) ?_
                    simp only [List.setIfInBounds_toArray, List.set_cons_zero, List.set_cons_succ]
                    refine held_takeG 222 (i := 6) (v := .int .i64 kk) rfl rfl (by kernel_rfl) (by kernel_rfl) (by kernel_rfl) (fun _ _ _ h => h) (by rfl) hS (fun W hW => by go_simp) ?_
                    simp only [List.setIfInBounds_toArray, List.set_cons_zero, List.set_cons_succ]
                    refine held_takeG 223 (i := 7) (v := .pointer (some ⟨gz, kk * 11, none⟩)) rfl rfl (by kernel_rfl) (by kernel_rfl) (by kernel_rfl) (fun _ _ _ h => h) (by rfl) hS (fun W hW => by go_simp) ?_
                    simp only [List.setIfInBounds_toArray, List.set_cons_zero, List.set_cons_succ]
                    refine held_takeG 224 (i := 8) (v := .agg ds) rfl rfl (by kernel_rfl) (by kernel_rfl) (by kernel_rfl) (fun _ _ _ h => h) (by rfl) hS (fun W hW => run_load_row _ _ rfl gz kk rfl ls (HRZ.out W hW) hnz ds HZC.out) ?_
                    simp only [List.setIfInBounds_toArray, List.set_cons_zero, List.set_cons_succ]
                    refine held_takeG 225 (i := 9) (v := .slice (some ⟨gr, 0, none⟩) ws.length wc) rfl rfl (by kernel_rfl) (by kernel_rfl) (by kernel_rfl) (fun _ _ _ h => h) (by rfl) hS (fun W hW => by go_simp) ?_
                    simp only [List.setIfInBounds_toArray, List.set_cons_zero, List.set_cons_succ]
                    refine held_takeG 226 (i := 10) (v := .int .i64 j) rfl rfl (by kernel_rfl) (by kernel_rfl) (by kernel_rfl) (fun _ _ _ h => h) (by rfl) hS (fun W hW => by go_simp) ?_
                    simp only [List.setIfInBounds_toArray, List.set_cons_zero, List.set_cons_succ]
                    refine held_takeG 227 (i := 11) (v := .pointer (some ⟨gr, j * 11, none⟩)) rfl rfl (by kernel_rfl) (by kernel_rfl) (by kernel_rfl) (fun _ _ _ h => h) (by rfl) hS (fun W hW => by go_simp) ?_
                    simp only [List.setIfInBounds_toArray, List.set_cons_zero, List.set_cons_succ]
                    refine held_takeG 228 (i := 12) (v := .agg cs) rfl rfl (by kernel_rfl) (by kernel_rfl) (by kernel_rfl) (fun _ _ _ h => h) (by rfl) hS (fun W hW => run_load_row _ _ rfl gr j rfl ws (HRY.out W hW) hlt cs HYC.out) ?_
                    simp only [List.setIfInBounds_toArray, List.set_cons_zero, List.set_cons_succ]
                    refine held_one (i := 13) (by kernel_rfl) rfl fun K hK => ?_
                    go_wp2_with (fail)
                    refine (HSAME.out w6 hS).mono ?_
                    unfold BoolPost
                    rintro e w7 ⟨rfl, hk7⟩
                    have hS7 := hS.trans hk7 fun _ _ e => e
                    clear hk7
                    go_wp2_with (fail)
                    refine hK.out _ _ hS7 fun _ => ?_
                    clear hK K
                    refine held_one (i := 14) (by kernel_rfl) rfl fun K hK => ?_
                    go_wp2_with (fail)
                    refine hK.out _ _ hS7 fun _ => ?_
                    clear hK K
                    refine held_one (i := 15) (by kernel_rfl) rfl fun K hK => ?_
                    go_wp2_with (fail)
                    refine hK.out _ _ hS7 fun _ => ?_
                    clear hK K
                    refine wpAnyH_done (by kernel_rfl) ?_ _
                    have HS7 := Lib.hid (HK2.out.trans hS7 fun _ _ e => e)
                    clear hS7 hS
                    go_wp2_with (fail)
                    go_roundw
                    case rel => exact ⟨j + 1, by go_num, by omega, by rw [kcnt_up _ _ _ hlt, if_neg (by show ¬ hasV bo ws[j].o.dot = true; rw [HYW.out, HH.out]; decide), Nat.add_zero], by rw [kcnt_up _ _ _ hlt, if_pos (by show (!hasV bo ws[j].o.dot) = true; rw [HYW.out, HH.out]; rfl), HN.out]; go_num, HS7.out⟩
                    case measure => simp [intOf]; omega
              · obtain rfl : j = ws.length := by omega
                go_wp2_with (fail)
                refine (HFIN.out _ (HE.out.k.trans HK1'.out fun _ _ e => e)).mono ?_
                rintro e w213 ⟨rfl, hkq⟩
                have HKQ := Lib.hid hkq
                clear hkq
                go_wp2
                go_ret
                exact ⟨rfl, HKQ.out⟩
          · have Fb := Lib.hid (cut_no_facts (V := vl) HALL.out hcb)
            have Cb := Lib.hid hcb
            clear hcb
            go_wp2_with (fail)
            have hcno := Cut_no p L1 YA b bbc w101 HZ.out.t.l.l (HYB.out.fresh HZ.out.t.l.k) (by omega) Cb.out
            obtain ⟨nb, hnb⟩ : ∃ n, cutErr L1 b = n := ⟨_, rfl⟩
            have hzb : ¬ nb = 0 := fun e => Cb.out (hnb.trans e)
            have hzbb : (nb == 0) = false := beq_eq_false_iff_ne.mpr hzb
            rw [hnb] at hcno
            clear hnb
            refine hcno.mono ?_
            unfold RefPost
            rintro e w109 ⟨rfl, hkq⟩
            have HY' := Lib.hid (HZ.out.fresh hkq)
            clear hkq hcno HZ
            have HZ := Lib.hid HY'.out
            clear HY'
            go_wp2_with (fail)
            refine (RCheck_any XA a ac w109 (HXA.out.fresh HZ.out.t.l.k) (by omega)).mono ?_
            unfold IntPost
            rw [Fa.out.1]
            rintro e w110 ⟨rfl, hkq⟩
            have HY' := Lib.hid (HZ.out.fresh hkq)
            clear hkq HZ
            have HZ := Lib.hid HY'.out
            clear HY'
            go_wp2_with (fail)
            refine (RCovers_any VA XA vl a vc ac w110 (DotsAt.of_own HZ.out.v) (HXA.out.fresh HZ.out.t.l.k) (by omega) (by omega)).mono ?_
            unfold BoolPost
            rw [Fa.out.2]
            rintro e w111 ⟨rfl, hkq⟩
            have HY' := Lib.hid (HZ.out.fresh hkq)
            clear hkq HZ
            have HZ := Lib.hid HY'.out
            clear HY'
            by_cases hchb : checkV b = 0
            · go_wp2_with (fail)
              refine (RCheck_any YA b bbc w111 (HYB.out.fresh HZ.out.t.l.k) (by omega)).mono ?_
              unfold IntPost
              rw [hchb]
              rintro e w113 ⟨rfl, hkq⟩
              have HY' := Lib.hid (HZ.out.fresh hkq)
              clear hkq HZ
              have HZ := Lib.hid HY'.out
              clear HY'
              go_wp2_with (fail)
              refine (RCovers_any VA YA vl b vc bbc w113 (DotsAt.of_own HZ.out.v) (HYB.out.fresh HZ.out.t.l.k) (by omega) (by omega)).mono ?_
              unfold BoolPost
              rw [Fb.out hchb]
              rintro e w114 ⟨rfl, hkq⟩
              have HY' := Lib.hid (HZ.out.fresh hkq)
              clear hkq HZ
              have HZ := Lib.hid HY'.out
              clear HY'
              go_wp2_with (fail)
              refine (Vector_any p L1 w114 HZ.out.t.l.l).mono ?_
              rintro e w115 hf
              obtain ⟨VA2, vc2, rfl, hdv, hkq⟩ := hf.at
              have HY' := Lib.hid (HZ.out.fresh hkq)
              have HV2 := Lib.hid hdv
              clear hf hdv hkq HZ
              have HZ := Lib.hid HY'.out
              clear HY'
              go_wp2_with (fail)
              refine (vectors_any VA2 VA L1.all vl vc2 vc w115 HV2.out (DotsAt.of_own HZ.out.v) (by have := HZ.out.t.l.l.al; omega)).mono ?_
              unfold SamePost
              rw [decide_eq_true HALL.out]
              rintro e w116 ⟨rfl, hkq⟩
              have HY' := Lib.hid (HZ.out.fresh hkq)
              clear hkq HZ
              have HZ := Lib.hid HY'.out
              clear HY'
              go_wp2_with (fail)
              refine (HFIN.out _ HZ.out.t.l.k).mono ?_
              rintro e w117 ⟨rfl, hkq⟩
              have HKQ := Lib.hid hkq
              clear hkq
              go_wp2
              go_ret
              exact ⟨rfl, HKQ.out⟩
            · have hcbb : (checkV b == 0) = false := beq_eq_false_iff_ne.mpr hchb
              go_wp2_with (fail)
              refine (RCheck_any YA b bbc w111 (HYB.out.fresh HZ.out.t.l.k) (by omega)).mono ?_
              unfold IntPost
              rintro e w112 ⟨rfl, hkq⟩
              have HY' := Lib.hid (HZ.out.fresh hkq)
              clear hkq HZ
              have HZ := Lib.hid HY'.out
              clear HY'
              go_wp2_with (fail)
              refine (Vector_any p L1 w112 HZ.out.t.l.l).mono ?_
              rintro e w118 hf
              obtain ⟨VA2, vc2, rfl, hdv, hkq⟩ := hf.at
              have HY' := Lib.hid (HZ.out.fresh hkq)
              have HV2 := Lib.hid hdv
              clear hf hdv hkq HZ
              have HZ := Lib.hid HY'.out
              clear HY'
              go_wp2_with (fail)
              refine (vectors_any VA2 VA L1.all vl vc2 vc w118 HV2.out (DotsAt.of_own HZ.out.v) (by have := HZ.out.t.l.l.al; omega)).mono ?_
              unfold SamePost
              rw [decide_eq_true HALL.out]
              rintro e w119 ⟨rfl, hkq⟩
              have HY' := Lib.hid (HZ.out.fresh hkq)
              clear hkq HZ
              have HZ := Lib.hid HY'.out
              clear HY'
              go_wp2_with (fail)
              refine (HFIN.out _ HZ.out.t.l.k).mono ?_
              rintro e w120 ⟨rfl, hkq⟩
              have HKQ := Lib.hid hkq
              clear hkq
              go_wp2
              go_ret
              exact ⟨rfl, HKQ.out⟩
        · have Fa := Lib.hid (cut_no_facts (V := vl) HALL.out hca)
          have Ca := Lib.hid hca
          clear hca
          go_wp2_with (fail)
          have hcno := Cut_no p L XA a ac w8 HZ.out.t.l.l (HXA.out.fresh HZ.out.t.l.k) (by omega) Ca.out
          obtain ⟨na, hna⟩ : ∃ n, cutErr L a = n := ⟨_, rfl⟩
          have hza : ¬ na = 0 := fun e => Ca.out (hna.trans e)
          have hzba : (na == 0) = false := beq_eq_false_iff_ne.mpr hza
          rw [hna] at hcno
          clear hna
          refine hcno.mono ?_
          unfold RefPost
          rintro e w121 ⟨rfl, hkq⟩
          have HY' := Lib.hid (HZ.out.fresh hkq)
          clear hkq hcno HZ
          have HZ := Lib.hid HY'.out
          clear HY'
          by_cases hcb : cutErr L b = 0
          · have Fb := Lib.hid (cut_yes_facts (V := vl) HALL.out hcb)
            have Cb := Lib.hid hcb
            clear hcb
            go_wp2_with (fail)
            refine (Cut_yes p L YA b bbc w121 HZ.out.t.l.l (HYB.out.fresh HZ.out.t.l.k) (by omega) (fun h0 a ha => older HZ.out.t HYB.out h0 a ha) Cb.out).mono ?_
            rintro e w122 ⟨L2, ys, ysA, ysc, rfl, hgs, -, -, hlg, hb1, ha1, ho1, hkq, hgo⟩
            have HY' := Lib.hid (HZ.out.turnL (HZ.out.t.l.turn hlg hkq hgo) hkq hgo)
            have Hys := Lib.hid (cut_d Cb.out hb1 ha1 ho1)
            have Hysn := Lib.hid (cut_len hgs)
            have HAL' := Lib.hid (show L2.all = vl from ha1.trans HALL.out)
            clear hgs hlg hb1 ha1 ho1 hkq hgo HZ HALL
            have HZ := Lib.hid HY'.out
            have HALL := Lib.hid HAL'.out
            clear HY' HAL'
            by_cases hcha : checkV a = 0
            · go_wp2_with (fail)
              refine (RCheck_any XA a ac w122 (HXA.out.fresh HZ.out.t.l.k) (by omega)).mono ?_
              unfold IntPost
              rw [hcha]
              rintro e w124 ⟨rfl, hkq⟩
              have HY' := Lib.hid (HZ.out.fresh hkq)
              clear hkq HZ
              have HZ := Lib.hid HY'.out
              clear HY'
              go_wp2_with (fail)
              refine (RCovers_any VA XA vl a vc ac w124 (DotsAt.of_own HZ.out.v) (HXA.out.fresh HZ.out.t.l.k) (by omega) (by omega)).mono ?_
              unfold BoolPost
              rw [Fa.out hcha]
              rintro e w125 ⟨rfl, hkq⟩
              have HY' := Lib.hid (HZ.out.fresh hkq)
              clear hkq HZ
              have HZ := Lib.hid HY'.out
              clear HY'
              go_wp2_with (fail)
              refine (RCheck_any YA b bbc w125 (HYB.out.fresh HZ.out.t.l.k) (by omega)).mono ?_
              unfold IntPost
              rw [Fb.out.1]
              rintro e w126 ⟨rfl, hkq⟩
              have HY' := Lib.hid (HZ.out.fresh hkq)
              clear hkq HZ
              have HZ := Lib.hid HY'.out
              clear HY'
              go_wp2_with (fail)
              refine (RCovers_any VA YA vl b vc bbc w126 (DotsAt.of_own HZ.out.v) (HYB.out.fresh HZ.out.t.l.k) (by omega) (by omega)).mono ?_
              unfold BoolPost
              rw [Fb.out.2]
              rintro e w127 ⟨rfl, hkq⟩
              have HY' := Lib.hid (HZ.out.fresh hkq)
              clear hkq HZ
              have HZ := Lib.hid HY'.out
              clear HY'
              go_wp2_with (fail)
              refine (Vector_any p L2 w127 HZ.out.t.l.l).mono ?_
              rintro e w128 hf
              obtain ⟨VA2, vc2, rfl, hdv, hkq⟩ := hf.at
              have HY' := Lib.hid (HZ.out.fresh hkq)
              have HV2 := Lib.hid hdv
              clear hf hdv hkq HZ
              have HZ := Lib.hid HY'.out
              clear HY'
              go_wp2_with (fail)
              refine (vectors_any VA2 VA L2.all vl vc2 vc w128 HV2.out (DotsAt.of_own HZ.out.v) (by have := HZ.out.t.l.l.al; omega)).mono ?_
              unfold SamePost
              rw [decide_eq_true HALL.out]
              rintro e w129 ⟨rfl, hkq⟩
              have HY' := Lib.hid (HZ.out.fresh hkq)
              clear hkq HZ
              have HZ := Lib.hid HY'.out
              clear HY'
              go_wp2_with (fail)
              refine (HFIN.out _ HZ.out.t.l.k).mono ?_
              rintro e w130 ⟨rfl, hkq⟩
              have HKQ := Lib.hid hkq
              clear hkq
              go_wp2
              go_ret
              exact ⟨rfl, HKQ.out⟩
            · have hcba : (checkV a == 0) = false := beq_eq_false_iff_ne.mpr hcha
              go_wp2_with (fail)
              refine (RCheck_any XA a ac w122 (HXA.out.fresh HZ.out.t.l.k) (by omega)).mono ?_
              unfold IntPost
              rintro e w123 ⟨rfl, hkq⟩
              have HY' := Lib.hid (HZ.out.fresh hkq)
              clear hkq HZ
              have HZ := Lib.hid HY'.out
              clear HY'
              go_wp2_with (fail)
              refine (RCheck_any YA b bbc w123 (HYB.out.fresh HZ.out.t.l.k) (by omega)).mono ?_
              unfold IntPost
              rw [Fb.out.1]
              rintro e w131 ⟨rfl, hkq⟩
              have HY' := Lib.hid (HZ.out.fresh hkq)
              clear hkq HZ
              have HZ := Lib.hid HY'.out
              clear HY'
              go_wp2_with (fail)
              refine (RCovers_any VA YA vl b vc bbc w131 (DotsAt.of_own HZ.out.v) (HYB.out.fresh HZ.out.t.l.k) (by omega) (by omega)).mono ?_
              unfold BoolPost
              rw [Fb.out.2]
              rintro e w132 ⟨rfl, hkq⟩
              have HY' := Lib.hid (HZ.out.fresh hkq)
              clear hkq HZ
              have HZ := Lib.hid HY'.out
              clear HY'
              go_wp2_with (fail)
              refine (Vector_any p L2 w132 HZ.out.t.l.l).mono ?_
              rintro e w133 hf
              obtain ⟨VA2, vc2, rfl, hdv, hkq⟩ := hf.at
              have HY' := Lib.hid (HZ.out.fresh hkq)
              have HV2 := Lib.hid hdv
              clear hf hdv hkq HZ
              have HZ := Lib.hid HY'.out
              clear HY'
              go_wp2_with (fail)
              refine (vectors_any VA2 VA L2.all vl vc2 vc w133 HV2.out (DotsAt.of_own HZ.out.v) (by have := HZ.out.t.l.l.al; omega)).mono ?_
              unfold SamePost
              rw [decide_eq_true HALL.out]
              rintro e w134 ⟨rfl, hkq⟩
              have HY' := Lib.hid (HZ.out.fresh hkq)
              clear hkq HZ
              have HZ := Lib.hid HY'.out
              clear HY'
              go_wp2_with (fail)
              refine (HFIN.out _ HZ.out.t.l.k).mono ?_
              rintro e w135 ⟨rfl, hkq⟩
              have HKQ := Lib.hid hkq
              clear hkq
              go_wp2
              go_ret
              exact ⟨rfl, HKQ.out⟩
          · have Fb := Lib.hid (cut_no_facts (V := vl) HALL.out hcb)
            have Cb := Lib.hid hcb
            clear hcb
            go_wp2_with (fail)
            have hcno := Cut_no p L YA b bbc w121 HZ.out.t.l.l (HYB.out.fresh HZ.out.t.l.k) (by omega) Cb.out
            obtain ⟨nb, hnb⟩ : ∃ n, cutErr L b = n := ⟨_, rfl⟩
            have hzb : ¬ nb = 0 := fun e => Cb.out (hnb.trans e)
            have hzbb : (nb == 0) = false := beq_eq_false_iff_ne.mpr hzb
            rw [hnb] at hcno
            clear hnb
            refine hcno.mono ?_
            unfold RefPost
            rintro e w136 ⟨rfl, hkq⟩
            have HY' := Lib.hid (HZ.out.fresh hkq)
            clear hkq hcno HZ
            have HZ := Lib.hid HY'.out
            clear HY'
            by_cases hcha : checkV a = 0
            · go_wp2_with (fail)
              refine (RCheck_any XA a ac w136 (HXA.out.fresh HZ.out.t.l.k) (by omega)).mono ?_
              unfold IntPost
              rw [hcha]
              rintro e w138 ⟨rfl, hkq⟩
              have HY' := Lib.hid (HZ.out.fresh hkq)
              clear hkq HZ
              have HZ := Lib.hid HY'.out
              clear HY'
              go_wp2_with (fail)
              refine (RCovers_any VA XA vl a vc ac w138 (DotsAt.of_own HZ.out.v) (HXA.out.fresh HZ.out.t.l.k) (by omega) (by omega)).mono ?_
              unfold BoolPost
              rw [Fa.out hcha]
              rintro e w139 ⟨rfl, hkq⟩
              have HY' := Lib.hid (HZ.out.fresh hkq)
              clear hkq HZ
              have HZ := Lib.hid HY'.out
              clear HY'
              by_cases hchb : checkV b = 0
              · go_wp2_with (fail)
                refine (RCheck_any YA b bbc w139 (HYB.out.fresh HZ.out.t.l.k) (by omega)).mono ?_
                unfold IntPost
                rw [hchb]
                rintro e w141 ⟨rfl, hkq⟩
                have HY' := Lib.hid (HZ.out.fresh hkq)
                clear hkq HZ
                have HZ := Lib.hid HY'.out
                clear HY'
                go_wp2_with (fail)
                refine (RCovers_any VA YA vl b vc bbc w141 (DotsAt.of_own HZ.out.v) (HYB.out.fresh HZ.out.t.l.k) (by omega) (by omega)).mono ?_
                unfold BoolPost
                rw [Fb.out hchb]
                rintro e w142 ⟨rfl, hkq⟩
                have HY' := Lib.hid (HZ.out.fresh hkq)
                clear hkq HZ
                have HZ := Lib.hid HY'.out
                clear HY'
                go_wp2_with (fail)
                refine (Vector_any p L w142 HZ.out.t.l.l).mono ?_
                rintro e w143 hf
                obtain ⟨VA2, vc2, rfl, hdv, hkq⟩ := hf.at
                have HY' := Lib.hid (HZ.out.fresh hkq)
                have HV2 := Lib.hid hdv
                clear hf hdv hkq HZ
                have HZ := Lib.hid HY'.out
                clear HY'
                go_wp2_with (fail)
                refine (vectors_any VA2 VA L.all vl vc2 vc w143 HV2.out (DotsAt.of_own HZ.out.v) (by have := HZ.out.t.l.l.al; omega)).mono ?_
                unfold SamePost
                rw [decide_eq_true HALL.out]
                rintro e w144 ⟨rfl, hkq⟩
                have HY' := Lib.hid (HZ.out.fresh hkq)
                clear hkq HZ
                have HZ := Lib.hid HY'.out
                clear HY'
                go_wp2_with (fail)
                refine (HFIN.out _ HZ.out.t.l.k).mono ?_
                rintro e w145 ⟨rfl, hkq⟩
                have HKQ := Lib.hid hkq
                clear hkq
                go_wp2
                go_ret
                exact ⟨rfl, HKQ.out⟩
              · have hcbb : (checkV b == 0) = false := beq_eq_false_iff_ne.mpr hchb
                go_wp2_with (fail)
                refine (RCheck_any YA b bbc w139 (HYB.out.fresh HZ.out.t.l.k) (by omega)).mono ?_
                unfold IntPost
                rintro e w140 ⟨rfl, hkq⟩
                have HY' := Lib.hid (HZ.out.fresh hkq)
                clear hkq HZ
                have HZ := Lib.hid HY'.out
                clear HY'
                go_wp2_with (fail)
                refine (Vector_any p L w140 HZ.out.t.l.l).mono ?_
                rintro e w146 hf
                obtain ⟨VA2, vc2, rfl, hdv, hkq⟩ := hf.at
                have HY' := Lib.hid (HZ.out.fresh hkq)
                have HV2 := Lib.hid hdv
                clear hf hdv hkq HZ
                have HZ := Lib.hid HY'.out
                clear HY'
                go_wp2_with (fail)
                refine (vectors_any VA2 VA L.all vl vc2 vc w146 HV2.out (DotsAt.of_own HZ.out.v) (by have := HZ.out.t.l.l.al; omega)).mono ?_
                unfold SamePost
                rw [decide_eq_true HALL.out]
                rintro e w147 ⟨rfl, hkq⟩
                have HY' := Lib.hid (HZ.out.fresh hkq)
                clear hkq HZ
                have HZ := Lib.hid HY'.out
                clear HY'
                go_wp2_with (fail)
                refine (HFIN.out _ HZ.out.t.l.k).mono ?_
                rintro e w148 ⟨rfl, hkq⟩
                have HKQ := Lib.hid hkq
                clear hkq
                go_wp2
                go_ret
                exact ⟨rfl, HKQ.out⟩
            · have hcba : (checkV a == 0) = false := beq_eq_false_iff_ne.mpr hcha
              go_wp2_with (fail)
              refine (RCheck_any XA a ac w136 (HXA.out.fresh HZ.out.t.l.k) (by omega)).mono ?_
              unfold IntPost
              rintro e w137 ⟨rfl, hkq⟩
              have HY' := Lib.hid (HZ.out.fresh hkq)
              clear hkq HZ
              have HZ := Lib.hid HY'.out
              clear HY'
              by_cases hchb : checkV b = 0
              · go_wp2_with (fail)
                refine (RCheck_any YA b bbc w137 (HYB.out.fresh HZ.out.t.l.k) (by omega)).mono ?_
                unfold IntPost
                rw [hchb]
                rintro e w150 ⟨rfl, hkq⟩
                have HY' := Lib.hid (HZ.out.fresh hkq)
                clear hkq HZ
                have HZ := Lib.hid HY'.out
                clear HY'
                go_wp2_with (fail)
                refine (RCovers_any VA YA vl b vc bbc w150 (DotsAt.of_own HZ.out.v) (HYB.out.fresh HZ.out.t.l.k) (by omega) (by omega)).mono ?_
                unfold BoolPost
                rw [Fb.out hchb]
                rintro e w151 ⟨rfl, hkq⟩
                have HY' := Lib.hid (HZ.out.fresh hkq)
                clear hkq HZ
                have HZ := Lib.hid HY'.out
                clear HY'
                go_wp2_with (fail)
                refine (Vector_any p L w151 HZ.out.t.l.l).mono ?_
                rintro e w152 hf
                obtain ⟨VA2, vc2, rfl, hdv, hkq⟩ := hf.at
                have HY' := Lib.hid (HZ.out.fresh hkq)
                have HV2 := Lib.hid hdv
                clear hf hdv hkq HZ
                have HZ := Lib.hid HY'.out
                clear HY'
                go_wp2_with (fail)
                refine (vectors_any VA2 VA L.all vl vc2 vc w152 HV2.out (DotsAt.of_own HZ.out.v) (by have := HZ.out.t.l.l.al; omega)).mono ?_
                unfold SamePost
                rw [decide_eq_true HALL.out]
                rintro e w153 ⟨rfl, hkq⟩
                have HY' := Lib.hid (HZ.out.fresh hkq)
                clear hkq HZ
                have HZ := Lib.hid HY'.out
                clear HY'
                go_wp2_with (fail)
                refine (HFIN.out _ HZ.out.t.l.k).mono ?_
                rintro e w154 ⟨rfl, hkq⟩
                have HKQ := Lib.hid hkq
                clear hkq
                go_wp2
                go_ret
                exact ⟨rfl, HKQ.out⟩
              · have hcbb : (checkV b == 0) = false := beq_eq_false_iff_ne.mpr hchb
                go_wp2_with (fail)
                refine (RCheck_any YA b bbc w137 (HYB.out.fresh HZ.out.t.l.k) (by omega)).mono ?_
                unfold IntPost
                rintro e w149 ⟨rfl, hkq⟩
                have HY' := Lib.hid (HZ.out.fresh hkq)
                clear hkq HZ
                have HZ := Lib.hid HY'.out
                clear HY'
                go_wp2_with (fail)
                refine (Vector_any p L w149 HZ.out.t.l.l).mono ?_
                rintro e w155 hf
                obtain ⟨VA2, vc2, rfl, hdv, hkq⟩ := hf.at
                have HY' := Lib.hid (HZ.out.fresh hkq)
                have HV2 := Lib.hid hdv
                clear hf hdv hkq HZ
                have HZ := Lib.hid HY'.out
                clear HY'
                go_wp2_with (fail)
                refine (vectors_any VA2 VA L.all vl vc2 vc w155 HV2.out (DotsAt.of_own HZ.out.v) (by have := HZ.out.t.l.l.al; omega)).mono ?_
                unfold SamePost
                rw [decide_eq_true HALL.out]
                rintro e w156 ⟨rfl, hkq⟩
                have HY' := Lib.hid (HZ.out.fresh hkq)
                clear hkq HZ
                have HZ := Lib.hid HY'.out
                clear HY'
                go_wp2_with (fail)
                refine (HFIN.out _ HZ.out.t.l.k).mono ?_
                rintro e w157 ⟨rfl, hkq⟩
                have HKQ := Lib.hid hkq
                clear hkq
                go_wp2
                go_ret
                exact ⟨rfl, HKQ.out⟩
end Go.Proofs.Ytnfehkncfjgeeaa
