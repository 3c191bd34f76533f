/- The walk of the law's known: what the document fixes. No condition. · The plain law of logs: what calls make of one, and how the rows go along the operations that it keeps. No program in sight. · The walk of the law's do: one call on a log. Conditions: the step lies in memory that is older than the log; nothing is longer than a million. · A script's steps: loaded whole; which may be played. No condition beyond what the structures say. · The walks of the law's same and ops at operations that are alike. Conditions: they lie in memory; nothing is longer than a million. · The walk of the law's ops at rows of operations that are alike. Conditions: they lie in memory; nothing is longer than a million. · Two logs side by side: a call on one leaves the other. The plain law of cutting twice. No condition beyond what the structures say. · What LogCuts rests on, beside the walk: two logs, what was kept, the plain law. No condition beyond what the structures say. · Rows of operations whose lists are written over in place: what stays. No condition beyond what the structures say. · The walk of the law's wipe: a row of operations and their lists are written over; nothing else. Conditions: the lists are the row's own, no longer than a million. · What LogOwn rests on, beside the walk: rows and vectors that are told, written over; what stays. No condition beyond what the structures say. -/
import Derived.Test.YtnfehkncfjgeeaaJD
import Derived.Test.YtnfehkncfjgeeaaJB
import Derived.Test.YtnfehkncfjgeeaaJC
import Derived.Test.YtnfehkncfjgeeaaVCan
import Derived.Test.YtnfehkncfjgeeaaOCheck
import Derived.Test.YtnfehkncfjgeeaaOEq
import Derived.Test.YtnfehkncfjgeeaaJA
namespace Go.Proofs.Ytnfehkncfjgeeaa
open Go Go.RowKit

theorem dots_new1 (w : World) (a b : Int) (T : TypeId) : DotsAt (w.alloc (.cells #[.int .i64 a, .int .i64 b] T)) (some ⟨w.heap.size, 0, none⟩) [⟨a, b⟩] := fun k hk => by
  obtain rfl : k = 0 := by simp at hk; omega
  exact ⟨_, rfl, (Box.new w T #[.int .i64 a, .int .i64 b]).cell 0, (Box.new w T #[.int .i64 a, .int .i64 b]).cell 1⟩
/-- A log that was made since w, in memory that is not older. -/
structure LogOf (w : World) (p : Nat) (L : Lg) (W : World) : Prop where
  l : LogAt W p L
  k : Kept (fun _ => False) w W
  ge : w.heap.size ≤ p
  ov : ∀ k, L.oV.ownBlock = some k → w.heap.size ≤ k
section
variable {w W W' : World} {p : Nat} {L L' : Lg}
theorem LogOf.fresh (h : LogOf w p L W) (hk : Kept (fun _ => False) W W') : LogOf w p L W' := ⟨h.l.fresh hk, h.k.trans hk fun _ _ e => e, h.ge, h.ov⟩
theorem LogOf.turn (h : LogOf w p L W) (hl : LogAt W' p L') (hk : Kept (fun k => k = p ∨ L.oV.ownBlock = some k) W W') (hg : Goes W L.oV L'.oV) : LogOf w p L' W' := by
  refine ⟨hl, h.k.trans hk fun k hk e => ?_, h.ge, fun k e => ?_⟩
  · rcases e with rfl | e
    · have := h.ge; omega
    · have := h.ov k e; omega
  · rcases hg k e with e | e
    · exact h.ov k e
    · exact Nat.le_trans h.k.size e
theorem LogOf.made (hl : LogAt W p L) (hk : Kept (fun _ => False) w W) (hg : w.heap.size ≤ p) (hA : L.oA = none) : LogOf w p L W := ⟨hl, hk, hg, fun k e => by unfold Lg.oV at e; rw [hA] at e; cases e⟩
end
def opA : Opr := ⟨⟨1, 6⟩, [⟨1, 5⟩], 4, ⟨0, 0⟩, ⟨0, 0⟩, ⟨#[]⟩, [], 0⟩
def opB : Opr := ⟨⟨1, 8⟩, [⟨1, 7⟩], 4, ⟨0, 0⟩, ⟨0, 0⟩, ⟨#[]⟩, [], 0⟩
def opC : Opr := ⟨⟨0, 0⟩, [], 0, ⟨0, 0⟩, ⟨0, 0⟩, ⟨#[]⟩, [], 0⟩
theorem opA_ok : okOp opA = true := by kernel_rfl
theorem opB_ok : okOp opB = true := by kernel_rfl
theorem opC_ok : okOp opC = false := by kernel_rfl
theorem kn1 : checkV [⟨1, 5⟩] = 0 := by kernel_rfl
theorem kn2 : addE [⟨1, 5⟩] ⟨1, 6⟩ = 0 ∧ coversR (says [⟨1, 5⟩]) (says [⟨1, 5⟩]) = true ∧ addV [⟨1, 5⟩] ⟨1, 6⟩ = [⟨1, 6⟩] := ⟨by kernel_rfl, by kernel_rfl, by kernel_rfl⟩
theorem kn3 : addE [⟨1, 6⟩] ⟨1, 8⟩ = 9 := by kernel_rfl
theorem kn4 : hasV [⟨1, 5⟩] ⟨1, 6⟩ = false ∧ hasV [⟨1, 6⟩] ⟨1, 6⟩ = true := ⟨by kernel_rfl, by kernel_rfl⟩
theorem kn5 : checkV [⟨1, 6⟩] = 0 ∧ coversR (says [⟨1, 6⟩]) (says [⟨1, 6⟩]) = true ∧ vec (maxR (says [⟨1, 5⟩]) (says [⟨1, 6⟩])) = [⟨1, 6⟩] := ⟨by kernel_rfl, by kernel_rfl, by kernel_rfl⟩
theorem small_of {o : Opr} (h1 : o.gone = []) (h2 : o.deps.length ≤ 1) (h3 : o.text = ⟨#[]⟩) : o.Small := ⟨fun r hr => absurd (h1 ▸ hr) (by simp), by omega, by rw [h1]; simp, by rw [h3]; decide⟩
theorem opA_small : opA.Small := small_of rfl (by decide) rfl
theorem opB_small : opB.Small := small_of rfl (by decide) rfl
theorem opC_small : opC.Small := small_of rfl (by decide) rfl

set_option maxRecDepth 100000 in
set_option maxHeartbeats 3200000 in
theorem known_any (w : World) : Calls Try.prog 11 #[] w (BoolPost w true) := by
  have hd1 := Lib.hid (dots_new1 w 1 5 28)
  go_enter Try.func11, Try.ntmps11
  go_wp2_with (fail)
  have HK0 := Lib.hid ((Kept.refl (fun _ => False) w).alloc (.cells #[.int .i64 1, .int .i64 5] 28))
  refine (New_any _ [⟨1, 5⟩] 1 _ hd1.out (by decide)).mono ?_
  rintro e w1 (⟨-, p, L0, rfl, hl, hb, ha, ho, hoA, hge, hk⟩ | ⟨h, -⟩)
  rotate_left
  · exact absurd kn1 h
  have HL0 := Lib.hid (LogOf.made hl (HK0.out.trans hk fun _ _ e => e) (Nat.le_trans HK0.out.size hge) hoA)
  have HB0 := Lib.hid hb
  have HA0 := Lib.hid ha
  have HO0 := Lib.hid ho
  clear hl hb ha ho hoA hge hk HK0 hd1
  go_wp2_with (fail)
  have HX1 := Lib.hid (dots_new1 w1 1 5 28)
  have HL1 := Lib.hid (HL0.out.fresh ((Kept.refl _ _).alloc (.cells #[.int .i64 1, .int .i64 5] 28)))
  have hE1 : addErr L0 opA = 0 := by
    unfold addErr
    rw [opA_ok, HA0.out, if_neg (by decide), if_neg]
    intro h
    rcases h with h | h
    · exact h kn2.1
    · exact absurd (h.symm.trans kn2.2.1) (by decide)
  generalize w1.alloc (.cells #[.int .i64 1, .int .i64 5] 28) = w2 at HX1 HL1 ⊢
  clear HL0
  have hadd := LogAdd_any p L0 ⟨opA, some ⟨w1.heap.size, 0, none⟩, 1, none, 0⟩ w2 HL1.out.l ⟨HX1.out, RunsAt.nil⟩ opA_small (by rw [HO0.out]; decide)
  simp only [hE1, if_true] at hadd
  refine hadd.mono ?_
  rintro e w3 ⟨L1, y, rfl, hb1, ha1, ho1, hyo, hl1, hk1, hg1⟩
  have HL3 := Lib.hid (HL1.out.turn hl1 hk1 hg1)
  have HA1 := Lib.hid (show L1.all = [⟨1, 6⟩] by rw [ha1, HA0.out]; exact kn2.2.2)
  have HB1 := Lib.hid (show L1.base = [⟨1, 5⟩] by rw [hb1, HB0.out])
  have HO1 := Lib.hid (show L1.ops = [y] by rw [ho1, HO0.out]; rfl)
  have HY := Lib.hid (show y.o = opA from hyo)
  clear hb1 ha1 ho1 hyo hl1 hk1 hg1 hadd HX1 HL1 hE1 HA0 HB0 HO0
  go_wp2_with (fail)
  have HX1 := Lib.hid (dots_new1 w3 1 7 28)
  have HL4 := Lib.hid (HL3.out.fresh ((Kept.refl _ _).alloc (.cells #[.int .i64 1, .int .i64 7] 28)))
  have hE2 : addErr L1 opB = 9 := by
    unfold addErr
    rw [opB_ok, HA1.out, if_neg (by decide), if_pos (.inl (by rw [show opB.dot = ⟨1, 8⟩ from rfl, kn3]; decide))]
  generalize w3.alloc (.cells #[.int .i64 1, .int .i64 7] 28) = w4 at HX1 HL4 ⊢
  clear HL3
  have hadd := LogAdd_any p L1 ⟨opB, some ⟨w3.heap.size, 0, none⟩, 1, none, 0⟩ w4 HL4.out.l ⟨HX1.out, RunsAt.nil⟩ opB_small (by rw [HO1.out]; simp)
  refine hadd.mono fun e w5 h => ?_
  rw [hE2, if_neg (by decide)] at h
  unfold IntPost at h
  obtain ⟨rfl, hk5⟩ := h
  have HL5 := Lib.hid (HL4.out.fresh hk5)
  clear hadd HX1 HL4 hE2 hk5
  go_wp2_with (fail)
  have hE3 : addErr L1 opC = 10 := by
    unfold addErr
    rw [opC_ok, if_pos rfl]
  have hadd := LogAdd_any p L1 ⟨opC, none, 0, none, 0⟩ w5 HL5.out.l ⟨DotsAt.nil, RunsAt.nil⟩ opC_small (by rw [HO1.out]; simp)
  refine hadd.mono fun e w6 h => ?_
  rw [hE3, if_neg (by decide)] at h
  unfold IntPost at h
  obtain ⟨rfl, hk6⟩ := h
  have HL6 := Lib.hid (HL5.out.fresh hk6)
  clear hadd HL5 hE3 hk6
  go_wp2_with (fail)
  have HX1 := Lib.hid (dots_new1 w6 1 5 28)
  have HL7 := Lib.hid (HL6.out.fresh ((Kept.refl _ _).alloc (.cells #[.int .i64 1, .int .i64 5] 28)))
  generalize w6.alloc (.cells #[.int .i64 1, .int .i64 5] 28) = w7 at HX1 HL7 ⊢
  clear HL6
  have hlk : lacks [⟨1, 5⟩] L1.ops = [y] := by
    unfold lacks
    rw [if_pos kn1, HO1.out, List.filter_cons_of_pos]
    · rfl
    · rw [HY.out]; simp [opA, kn4.1]
  have hla := Lacks_of (.pointer (some ⟨p, 0, none⟩)) (some ⟨w6.heap.size, 0, none⟩) [⟨1, 5⟩] 1 w7 (lacks [⟨1, 5⟩] L1.ops) fun W hk => Beyond_any p L1 _ [⟨1, 5⟩] 1 W (HL7.out.l.fresh hk) (HX1.out.fresh hk) (by decide)
  rw [hlk] at hla
  refine hla.mono ?_
  unfold IntPost
  rintro e w8 ⟨rfl, hk8⟩
  have HL8 := Lib.hid (HL7.out.fresh hk8)
  clear hla hlk HX1 HL7 hk8
  go_wp2_with (fail)
  have HX1 := Lib.hid (dots_new1 w8 1 6 28)
  have HL9 := Lib.hid (HL8.out.fresh ((Kept.refl _ _).alloc (.cells #[.int .i64 1, .int .i64 6] 28)))
  have HOV := Lib.hid (fun k (hk : L1.oV.ownBlock = some k) => (HL8.out.l.o.lt k hk).2)
  generalize w8.alloc (.cells #[.int .i64 1, .int .i64 6] 28) = w9 at HX1 HL9 ⊢
  clear HL8
  have hcu := Cut_yes p L1 (some ⟨w8.heap.size, 0, none⟩) [⟨1, 6⟩] 1 w9 HL9.out.l HX1.out (by decide) (fun _ a ha e => by injection ha with ha; subst ha; exact Nat.lt_irrefl _ (HOV.out _ e))
    (by unfold cutErr; rw [HA1.out, if_neg (by rw [kn5.1]; simp), if_neg (by rw [kn5.2.1]; simp)])
  refine hcu.mono ?_
  rintro e w10 ⟨L2, gs, A, c, rfl, hgo, hgr, hlan, hl2, hb2, ha2, ho2, hk2, hg2⟩
  have HL10 := Lib.hid (HL9.out.turn hl2 hk2 hg2)
  have HB2 := Lib.hid (show L2.base = [⟨1, 6⟩] by rw [hb2, HB1.out]; exact kn5.2.2)
  have HO2 := Lib.hid (show L2.ops = [] by
    rw [ho2, HO1.out, List.filter_cons_of_neg]
    · rfl
    · rw [HY.out]; simp [opA, kn4.2])
  have hgl : gs.length = 1 := by
    have := congrArg List.length hgo
    simp only [List.length_map] at this
    rw [this, HO1.out, List.filter_cons_of_pos]
    · rfl
    · rw [HY.out]; exact kn4.2
  rw [hgl]
  clear hgo hgr hlan hl2 hb2 ha2 ho2 hk2 hg2 hcu HX1 HL9 HOV HA1 HB1 HO1 HY hgl
  go_wp2_with (fail)
  refine (Len_any p L2 w10 HL10.out.l).mono ?_
  unfold IntPost
  rw [HO2.out]
  rintro e w11 ⟨rfl, hk11⟩
  have HL11 := Lib.hid (HL10.out.fresh hk11)
  clear hk11 HL10
  go_wp2_with (fail)
  refine (Base_any p L2 w11 HL11.out.l).mono ?_
  rw [HB2.out]
  rintro e w12 hf
  obtain ⟨A12, c12, rfl, hd12, hk12⟩ := hf.at
  have HL12 := Lib.hid (HL11.out.fresh hk12)
  have HD12 := Lib.hid hd12
  clear hf hd12 hk12 HL11
  go_wp2_with (fail)
  have HK13 := Lib.hid ((Kept.refl (fun _ => False) w12).alloc (.cells #[.int .i64 1, .int .i64 6] 28))
  refine (vectors_any A12 (some ⟨w12.heap.size, 0, none⟩) [⟨1, 6⟩] [⟨1, 6⟩] c12 1 _ (HD12.out.fresh HK13.out) (dots_new1 w12 1 6 28) (by decide)).mono ?_
  unfold SamePost
  rw [decide_eq_true rfl]
  rintro e w14 ⟨rfl, hk14⟩
  have HK := Lib.hid ((HL12.out.fresh HK13.out).fresh hk14).k
  go_wp2
  go_ret
  exact ⟨rfl, HK.out⟩
end Go.Proofs.Ytnfehkncfjgeeaa

namespace Go.Proofs.Ytnfehkncfjgeeaa
open Go

structure Pl where
  base : List Dt
  all : List Dt
  ops : List Opr
def Pl.addErr (P : Pl) (o : Opr) : Int := if okOp o = false then 10 else if addE P.all o.dot ≠ 0 ∨ coversR (says P.all) (says o.deps) = false then 9 else 0
def Pl.add (P : Pl) (o : Opr) : Pl := if P.addErr o = 0 then ⟨P.base, addV P.all o.dot, P.ops ++ [o]⟩ else P
def Pl.cutErr (P : Pl) (hv : List Dt) : Int := if checkV hv ≠ 0 then checkV hv else if coversR (says P.all) (says hv) = false then 9 else 0
def Pl.cut (P : Pl) (hv : List Dt) : Pl := if P.cutErr hv = 0 then ⟨vec (maxR (says P.base) (says hv)), P.all, P.ops.filter fun o => !hasV hv o.dot⟩ else P
def Pl.step (P : Pl) (kind : Int) (o : Opr) (v : List Dt) : Pl := if kind = 1 then P.add o else if kind = 3 then P.cut v else P
def Pl.lacks (P : Pl) (hv : List Dt) : List Opr := if checkV hv = 0 then P.ops.filter fun o => !hasV hv o.dot else []

/-- The operation comes next behind row r. -/
structure Nx (r : List Int) (o : Opr) : Prop where
  s1 : 1 ≤ o.dot.site
  s2 : o.dot.site ≤ 16
  q1 : 1 ≤ o.dot.seq
  q2 : o.dot.seq ≤ 2147483647
  next : o.dot.seq = rg r o.dot.site.toNat + 1
  cov : coversR r (says o.deps) = true
def put1 (r : List Int) (o : Opr) : List Int := r.set o.dot.site.toNat o.dot.seq
def Path (r : List Int) : List Opr → List Int → Prop
  | [], t => r = t
  | o :: os, t => Nx r o ∧ Path (put1 r o) os t
section
variable {r t u : List Int} {o : Opr} {os : List Opr}
theorem Nx.row (h : Nx r o) (hr : Row r) : Row (put1 r o) := hr.set _ (by have := h.s1; omega) (by have := h.s2; omega) _ (by have := h.q1; omega) h.q2
theorem put1_rg (h : Nx r o) (hr : Row r) (i : Nat) : rg (put1 r o) i = if i = o.dot.site.toNat then o.dot.seq else rg r i := rg_set _ _ _ _ (by rw [hr.len]; have := h.s2; omega)
theorem Path.row : ∀ {os : List Opr} {r t : List Int}, Row r → Path r os t → Row t
  | [], r, t, hr, h => by cases h; exact hr
  | o :: os, r, t, hr, h => Path.row (h.1.row hr) h.2
theorem Nx.up (h : Nx r o) (hr : Row r) : coversR (put1 r o) r = true := (covers_iff _ _).2 fun i _ => by
  rw [put1_rg h hr]
  split
  · rename_i e; subst e; have := h.next; omega
  · omega
theorem Path.cov : ∀ {os : List Opr} {r t : List Int}, Row r → Path r os t → coversR t r = true
  | [], r, t, _, h => by cases h; exact cov_refl
  | o :: os, r, t, hr, h => cov_trans (Path.cov (h.1.row hr) h.2) (h.1.up hr)
theorem sumR_set (r : List Int) (j : Nat) (x : Int) (hj : j < r.length) : ∀ k, sumR (r.set j x) k = sumR r k + if j < k then x - rg r j else 0
  | 0 => by simp [sumR]
  | k + 1 => by
    simp only [sumR, sumR_set r j x hj k, rg_set _ _ _ _ hj]
    by_cases h : k = j
    · subst h
      rw [if_neg (by omega), if_pos rfl, if_pos (by omega)]
      omega
    · rw [if_neg h]
      by_cases h2 : j < k
      · rw [if_pos h2, if_pos (by omega)]; omega
      · rw [if_neg h2, if_neg (by omega)]; omega
theorem Path.sum : ∀ {os : List Opr} {r t : List Int}, Row r → Path r os t → sumR t 17 = sumR r 17 + os.length
  | [], r, t, _, h => by cases h; simp
  | o :: os, r, t, hr, h => by
    rw [Path.sum (h.1.row hr) h.2, put1, sumR_set _ _ _ (by rw [hr.len]; have := h.1.s2; omega), if_pos (by have := h.1.s2; omega), List.length_cons]
    have := h.1.next
    omega
theorem Path.snoc : ∀ {os : List Opr} {r t : List Int}, Path r os t → Nx t o → Path r (os ++ [o]) (put1 t o)
  | [], r, t, h, hn => by cases h; exact ⟨hn, rfl⟩
  | _ :: os, r, t, h, hn => ⟨h.1, Path.snoc h.2 hn⟩
def hasR (u : List Int) (d : Dt) : Bool := decide (1 ≤ d.seq ∧ d.seq ≤ if siteB d.site then rg u d.site.toNat else 0)
theorem hasV_eq (l : List Dt) (d : Dt) : hasV l d = hasR (says l) d := rfl
theorem Nx.has (h : Nx r o) (u : List Int) : hasR u o.dot = decide (o.dot.seq ≤ rg u o.dot.site.toNat) := by
  have hs : siteB o.dot.site = true := by simp [siteB]; exact ⟨h.s1, h.s2⟩
  have := h.q1
  simp [hasR, hs, this]
theorem Path.max (hu : Row u) : ∀ {os : List Opr} {r t : List Int}, Row r → Path r os t → Path (maxR r u) (os.filter fun o => !hasR u o.dot) (maxR t u)
  | [], r, t, _, h => by cases h; rfl
  | o :: os, r, t, hr, h => by
    have ih := Path.max hu (h.1.row hr) h.2
    have hs1 := h.1.s1
    have hs2 := h.1.s2
    have hn := h.1.next
    rw [List.filter_cons, h.1.has u]
    by_cases hq : o.dot.seq ≤ rg u o.dot.site.toNat
    · rw [if_neg (by simp [hq])]
      have e : maxR (put1 r o) u = maxR r u := row_ext (zipR_len ..) (zipR_len ..) fun i hi => by
        rw [rg_max _ _ hi, rg_max _ _ hi, put1_rg h.1 hr]
        split
        · rename_i e; subst e; omega
        · rfl
      rw [← e]
      exact ih
    · rw [if_pos (by simp [hq])]
      have e : maxR (put1 r o) u = put1 (maxR r u) o := row_ext (zipR_len ..) (by unfold put1; rw [List.length_set]; exact zipR_len ..) fun i hi => by
        unfold put1
        rw [rg_max _ _ hi, rg_set _ _ _ _ (by rw [hr.len]; omega), rg_set _ _ _ _ (by unfold maxR; rw [zipR_len]; omega), rg_max _ _ hi]
        split
        · rename_i e; subst e; omega
        · rfl
      refine ⟨⟨hs1, hs2, h.1.q1, h.1.q2, ?_, cov_trans cov_max_l h.1.cov⟩, by rw [← e]; exact ih⟩
      rw [rg_max _ _ (by omega)]
      omega
theorem Path.none : ∀ {os : List Opr} {r t : List Int}, Row r → Path r os t → ∀ o ∈ os, hasR r o.dot = false
  | [], _, _, _, _, o, ho => absurd ho (by simp)
  | o :: os, r, t, hr, h, x, hx => by
    rcases List.mem_cons.1 hx with rfl | hx
    · rw [h.1.has r]
      have := h.1.next
      simp
      omega
    · have := Path.none (h.1.row hr) h.2 x hx
      have hc := (covers_iff _ _).1 (h.1.up hr)
      unfold hasR at this ⊢
      simp only [decide_eq_false_iff_not, not_and, Int.not_le] at this ⊢
      intro h1
      refine Int.lt_of_le_of_lt ?_ (this h1)
      split
      · rename_i hs
        simp [siteB] at hs
        exact hc _ (by omega)
      · omega
theorem Path.has : ∀ {os : List Opr} {r t : List Int}, Row r → Path r os t → ∀ o ∈ os, hasR t o.dot = true
  | [], _, _, _, _, o, ho => absurd ho (by simp)
  | o :: os, r, t, hr, h, x, hx => by
    rcases List.mem_cons.1 hx with rfl | hx
    · rw [h.1.has t]
      have hc := (covers_iff _ _).1 (Path.cov (h.1.row hr) h.2) x.dot.site.toNat (by have := h.1.s2; omega)
      rw [put1_rg h.1 hr, if_pos rfl] at hc
      exact decide_eq_true hc
    · exact Path.has (h.1.row hr) h.2 x hx
end
/-- Does each come behind all that it depends on? -/
def followsB : List Opr → List Dt → List Dt → Bool
  | [], f, t => decide (f = t)
  | o :: os, f, t => if coversR (says f) (says o.deps) = false ∨ hasV f o.dot = true then false else followsB os (vec (maxR (says f) (says [o.dot]))) t
theorem Nx.merge {r : List Int} {o : Opr} (h : Nx r o) (hr : Row r) : maxR r (says [o.dot]) = put1 r o := by
  have hs1 := h.s1
  have hs2 := h.s2
  have hok : okDot o.dot = true := by simp [okDot]; exact ⟨h.s1, h.s2, h.q1, h.q2⟩
  refine row_ext (zipR_len ..) (by unfold put1; rw [List.length_set]; exact hr.len) fun i hi => ?_
  rw [rg_max _ _ hi, put1_rg h hr]
  have e : says [o.dot] = lay row0 o.dot := rfl
  rw [e, rg_lay rfl, rg_row0]
  have hb := hr.bd i
  by_cases hi2 : i = o.dot.site.toNat
  · subst hi2
    rw [if_pos ⟨hok, by omega⟩, if_pos rfl]
    have := h.next
    have := h.q1
    omega
  · rw [if_neg hi2, if_neg (by rintro ⟨_, e⟩; omega)]
    omega
theorem Path.follows : ∀ {os : List Opr} {r t : List Int}, Row r → Path r os t → followsB os (vec r) (vec t) = true
  | [], r, t, _, h => by cases h; simp [followsB]
  | o :: os, r, t, hr, h => by
    have hh := Path.none hr h o (by simp)
    rw [followsB, says_vec hr, hasV_eq, says_vec hr, if_neg (by rw [h.1.cov, hh]; simp), h.1.merge hr]
    exact Path.follows (h.1.row hr) h.2
theorem max_of_cov {r s : List Int} (hr : r.length = 17) (h : coversR r s = true) : maxR r s = r := of_decide_eq_true (by rw [← covers_max hr]; exact h)
/-- A log that was made by New and calls. -/
structure Pl.Good (P : Pl) : Prop where
  bc : checkV P.base = 0
  ac : checkV P.all = 0
  path : Path (says P.base) P.ops (says P.all)
section
variable {P : Pl} {o : Opr} {hv : List Dt}
theorem Pl.Good.new (h : checkV hv = 0) : Pl.Good ⟨hv, hv, []⟩ := ⟨h, h, rfl⟩
theorem okOp_dot (h : okOp o = true) : 1 ≤ o.dot.site ∧ o.dot.site ≤ 16 ∧ 1 ≤ o.dot.seq ∧ o.dot.seq ≤ 2147483647 := by
  unfold okOp at h
  simp only [Bool.and_eq_true, decide_eq_true_eq] at h
  exact h.1.1.1
theorem Pl.Good.add (h : P.Good) (o : Opr) : (P.add o).Good := by
  unfold Pl.add
  split
  · rename_i he
    unfold Pl.addErr at he
    by_cases h1 : okOp o = false
    · rw [if_pos h1] at he; simp at he
    · rw [if_neg h1] at he
      by_cases h2 : addE P.all o.dot ≠ 0 ∨ coversR (says P.all) (says o.deps) = false
      · rw [if_pos h2] at he; simp at he
      · have h3 : addE P.all o.dot = 0 := by
          rcases Classical.em (addE P.all o.dot = 0) with e | e
          · exact e
          · exact absurd (.inl e) h2
        have h4 : coversR (says P.all) (says o.deps) = true := by
          cases hc : coversR (says P.all) (says o.deps) with
          | true => rfl
          | false => exact absurd (.inr hc) h2
        obtain ⟨d1, d2, d3, d4⟩ := okOp_dot (show okOp o = true by simpa using h1)
        have hs : siteB o.dot.site = true := by simp [siteB]; exact ⟨d1, d2⟩
        have hq : o.dot.seq = rg (says P.all) o.dot.site.toNat + 1 := by
          unfold addE at h3
          rw [if_neg (by simp [hs]; omega), if_neg (by omega)] at h3
          unfold getV at h3
          rw [if_pos hs] at h3
          by_cases e : o.dot.seq ≠ rg (says P.all) o.dot.site.toNat + 1
          · rw [if_pos e] at h3; simp at h3
          · omega
        have hn : Nx (says P.all) o := ⟨d1, d2, d3, d4, hq, h4⟩
        have hrow := hn.row (Row.says P.all)
        have e : addV P.all o.dot = vec (put1 (says P.all) o) := if_pos h3
        refine ⟨h.bc, ?_, ?_⟩
        · rw [e]; exact check_vec hrow
        · simp only [e, says_vec hrow]
          exact h.path.snoc hn
  · exact h
theorem Pl.Good.cut (h : P.Good) (hv : List Dt) : (P.cut hv).Good := by
  unfold Pl.cut
  split
  · rename_i he
    unfold Pl.cutErr at he
    by_cases h1 : checkV hv ≠ 0
    · rw [if_pos h1] at he; exact absurd he h1
    · rw [if_neg h1] at he
      have h2 : coversR (says P.all) (says hv) = true := by
        cases hc : coversR (says P.all) (says hv) with
        | true => rfl
        | false => rw [hc] at he; simp at he
      have hrow := (Row.says P.base).maxR (Row.says hv)
      refine ⟨check_vec hrow, h.ac, ?_⟩
      simp only [says_vec hrow]
      have := Path.max (Row.says hv) (Row.says P.base) h.path
      rw [max_of_cov (Row.says P.all).len h2] at this
      exact this
  · exact h
theorem Pl.Good.step (h : P.Good) (kind : Int) (o : Opr) (v : List Dt) : (P.step kind o v).Good := by
  unfold Pl.step
  split
  · exact h.add o
  · split
    · exact h.cut v
    · exact h
theorem Pl.add_len (P : Pl) (o : Opr) : (P.add o).ops.length ≤ P.ops.length + 1 := by
  unfold Pl.add
  split
  · simp
  · simp
theorem Pl.step_len (P : Pl) (kind : Int) (o : Opr) (v : List Dt) : (P.step kind o v).ops.length ≤ P.ops.length + 1 := by
  unfold Pl.step
  split
  · exact P.add_len o
  · split
    · unfold Pl.cut
      split
      · exact Nat.le_succ_of_le (List.length_filter_le _ _)
      · omega
    · omega
/-- What the law looks at behind each call. -/
theorem Pl.Good.looks (h : P.Good) : coversR (says P.all) (says P.base) = true ∧ sumR (says P.all) 17 = sumR (says P.base) 17 + P.ops.length ∧ P.lacks P.base = P.ops ∧ P.lacks P.all = [] ∧ followsB P.ops P.base P.all = true := by
  have hr := Row.says P.base
  refine ⟨h.path.cov hr, h.path.sum hr, ?_, ?_, ?_⟩
  · unfold Pl.lacks
    rw [if_pos h.bc, List.filter_eq_self]
    intro o ho
    rw [hasV_eq, h.path.none hr o ho]
    rfl
  · unfold Pl.lacks
    rw [if_pos h.ac, List.filter_eq_nil_iff]
    intro o ho
    rw [hasV_eq, h.path.has hr o ho]
    simp
  · have := h.path.follows hr
    rwa [vec_says h.bc, vec_says h.ac] at this
/-- And of what is beyond any vector. -/
theorem Pl.Good.beyond (h : P.Good) (hc : checkV hv = 0) : followsB (P.lacks hv) (vec (maxR (says hv) (says P.base))) (vec (maxR (says (vec (maxR (says hv) (says P.base)))) (says P.all))) = true := by
  have hr := Row.says P.base
  have hu := Row.says hv
  have hm := hu.maxR hr
  have hp := Path.max hu hr h.path
  have e : maxR (says (vec (maxR (says hv) (says P.base)))) (says P.all) = maxR (says P.all) (says hv) := by
    rw [says_vec hm, max_assoc', max_comm' (a := says P.base), max_of_cov (Row.says P.all).len (h.path.cov hr), max_comm']
  unfold Pl.lacks
  rw [if_pos hc, e, max_comm' (a := says hv)]
  exact hp.follows (hr.maxR hu)
end
end Go.Proofs.Ytnfehkncfjgeeaa

namespace Go.Proofs.Ytnfehkncfjgeeaa
open Go Go.RowKit

def Lg.d (L : Lg) : Pl := ⟨L.base, L.all, L.ops.map (·.o)⟩
def Stp.c (s : Stp) : Array Value := #[.int .i64 s.kind, .int .i64 s.x.o.dot.site, .int .i64 s.x.o.dot.seq, .slice s.x.dA s.x.o.deps.length s.x.dc, .int .i64 s.x.o.kind, .int .i64 s.x.o.id.time, .int .i64 s.x.o.id.site, .int .i64 s.x.o.ref.time, .int .i64 s.x.o.ref.site, .string s.x.o.text, .slice s.x.gA s.x.o.gone.length s.x.gc, .int .i64 s.x.o.site, .slice s.vA s.v.length s.vc]
theorem step_range {w : World} {g : Nat} {t : TypeId} {s : Stp} (h : Box w g t s.c) : w.rangeAt g 1 s.x.c.toList := fun j v hj => by
  have hj' : j < 11 := by
    have := (List.getElem?_eq_some_iff.1 hj).1
    rwa [Array.length_toList, Lop.c_size] at this
  rw [← hj]
  match j, hj' with
  | 0, _ => exact h.cell 1
  | 1, _ => exact h.cell 2
  | 2, _ => exact h.cell 3
  | 3, _ => exact h.cell 4
  | 4, _ => exact h.cell 5
  | 5, _ => exact h.cell 6
  | 6, _ => exact h.cell 7
  | 7, _ => exact h.cell 8
  | 8, _ => exact h.cell 9
  | 9, _ => exact h.cell 10
  | 10, _ => exact h.cell 11
/-- A step that may be played. -/
structure StepOk (w : World) (s : Stp) : Prop where
  x : s.x.At w
  v : DotsAt w s.vA s.v
  small : s.x.o.Small
  vl : s.v.length ≤ 1000000
theorem dots_lt {w : World} {A : Option Addr} {l : List Dt} (h : DotsAt w A l) (hne : 0 < l.length) : ∀ a, A = some a → a.block < w.heap.size := by
  rintro a rfl
  obtain ⟨ad, e, x0, _⟩ := h 0 hne
  injection e with e
  subst e
  have := World.block_lt_of_cell? w _ x0
  rwa [add_block] at this
theorem StepOk.fresh {w w' : World} {s : Stp} (h : StepOk w s) (hk : Kept (fun _ => False) w w') : StepOk w' s := ⟨h.x.fresh hk, h.v.fresh hk, h.small, h.vl⟩
def DoPost (w : World) (p : Nat) (L : Lg) (P : Pl) (W : World) (e : Ending) (W' : World) : Prop :=
  (∃ v, e = .returned v) ∧ ∃ L' : Lg, L'.d = P ∧ LogOf w p L' W' ∧ Kept (fun k => k = p ∨ L.oV.ownBlock = some k) W W' ∧ Goes W L.oV L'.oV
theorem lops_filter (l : List Lop) (f : Opr → Bool) : (l.filter fun x => f x.o).map (·.o) = (l.map (·.o)).filter f := by
  induction l with
  | nil => rfl
  | cons x l ih =>
    simp only [List.filter_cons, List.map_cons]
    split
    · rw [List.map_cons, ih]
    · exact ih

set_option maxRecDepth 100000 in
set_option maxHeartbeats 3200000 in
theorem do_any (w W : World) (p : Nat) (L : Lg) (s : Stp) (h : LogOf w p L W) (hs : StepOk w s) (hl : L.ops.length < 1000000) :
    Calls Try.prog 31 #[.pointer (some ⟨p, 0, none⟩), .agg s.c] W (DoPost w p L (L.d.step s.kind s.x.o s.v) W) := by
  have hk0 : Kept (fun _ => False) W (W.alloc (.cells s.c 47)) := (Kept.refl _ _).alloc _
  have HK0 := Lib.hid hk0
  have HL := Lib.hid (h.fresh hk0)
  have HGO := Lib.hid (fun (W' : World) (L' : Lg) (hg : Goes (W.alloc (.cells s.c 47)) L.oV L'.oV) => show Goes W L.oV L'.oV from fun k hk => (hg k hk).imp_right fun e => Nat.le_trans hk0.size e)
  have HS := Lib.hid (hs.fresh (h.k.trans hk0 fun _ _ e => e))
  have HB := Lib.hid (Box.new W 47 s.c)
  have HRG := Lib.hid (step_range (Box.new W 47 s.c))
  have HVB := Lib.hid (show 0 < s.v.length → ∀ a, s.vA = some a → L.oV.ownBlock ≠ some a.block from fun h0 a ha e => by have := dots_lt hs.v h0 a ha; have := h.ov _ e; omega)
  have c0 := HB.out.cell 0
  have c12 := HB.out.cell 12
  simp only [Stp.c, List.getElem?_toArray, List.getElem?_cons_succ, List.getElem?_cons_zero] at c0 c12
  obtain ⟨kind, x, vA, vc, v⟩ := s
  simp only at HL HS HRG HVB c0 c12 ⊢
  obtain ⟨cs, hcs⟩ : ∃ cs, x.c = cs := ⟨_, rfl⟩
  have HCS := Lib.hid hcs
  have HSZ := Lib.hid (show cs.size = 11 by rw [← hcs]; rfl)
  rw [hcs] at HRG
  clear hk0 h hs hcs HB
  unfold Stp.c at *
  simp only at *
  go_enter Try.func31, Try.ntmps31
  unfold Pl.step
  by_cases h1 : kind = 1
  · subst h1
    rw [if_pos rfl]
    go_wp2_with (refine load_step rfl _ rfl W.heap.size 1 rfl cs HSZ.out HRG.out ?_)
    have hadd := LogAdd_any p L x _ HL.out.l HS.out.x HS.out.small hl
    rw [HCS.out] at hadd
    refine hadd.mono fun e W' he => ?_
    have he' : ∃ n, e = .returned (.int .i64 n) := by
      by_cases hz : addErr L x.o = 0
      · rw [if_pos hz] at he
        obtain ⟨L', y, rfl, _⟩ := he
        exact ⟨_, rfl⟩
      · rw [if_neg hz] at he
        exact ⟨_, he.1⟩
    have hD : ∃ L' : Lg, L'.d = L.d.add x.o ∧ LogOf w p L' W' ∧ Kept (fun k => k = p ∨ L.oV.ownBlock = some k) W W' ∧ Goes W L.oV L'.oV := by
      unfold Pl.add
      have hee : L.d.addErr x.o = addErr L x.o := rfl
      rw [hee]
      by_cases hz : addErr L x.o = 0
      · rw [if_pos hz] at he ⊢
        obtain ⟨L', y, _, hb, ha, ho, hyo, hl', hk, hg⟩ := he
        refine ⟨L', ?_, HL.out.turn hl' hk hg, (HK0.out.more fun _ _ e => e.elim).trans hk fun _ _ e => e, HGO.out W' L' hg⟩
        unfold Lg.d
        rw [hb, ha, ho, List.map_append]
        simp [hyo]
      · rw [if_neg hz] at he ⊢
        refine ⟨L, rfl, HL.out.fresh he.2, (HK0.out.more fun _ _ e => e.elim).trans he.2 fun _ _ e => e.elim, fun k hk => .inl hk⟩
    have HD := Lib.hid hD
    obtain ⟨n, rfl⟩ := he'
    clear hadd he hD
    go_wp2
    go_end0
    exact ⟨⟨_, rfl⟩, HD.out⟩
  · rw [if_neg h1]
    by_cases h3 : kind = 3
    · subst h3
      rw [if_pos rfl]
      go_wp2_with (fail)
      generalize W.alloc (.cells #[.int .i64 3, .int .i64 x.o.dot.site, .int .i64 x.o.dot.seq, .slice x.dA x.o.deps.length x.dc, .int .i64 x.o.kind, .int .i64 x.o.id.time, .int .i64 x.o.id.site, .int .i64 x.o.ref.time, .int .i64 x.o.ref.site, .string x.o.text, .slice x.gA x.o.gone.length x.gc, .int .i64 x.o.site, .slice vA v.length vc] 47) = W1 at HK0 HL HGO HS HRG ⊢
      have hcu : ∀ e W', (if cutErr L v = 0 then CutPost W1 p L v e W' else RefPost W1 (cutErr L v) e W') → (∃ A k c n, e = .returned (.tuple #[.slice A k c, .int .i64 n])) ∧ ∃ L' : Lg, L'.d = L.d.cut v ∧ LogOf w p L' W' ∧ Kept (fun k => k = p ∨ L.oV.ownBlock = some k) W W' ∧ Goes W L.oV L'.oV := fun e W' he => by
        unfold Pl.cut
        have hee : L.d.cutErr v = cutErr L v := rfl
        rw [hee]
        by_cases hz : cutErr L v = 0
        · rw [if_pos hz] at he ⊢
          obtain ⟨L', gs, A, c, rfl, _, _, _, hl', hb, ha, ho, hk, hg⟩ := he
          refine ⟨⟨A, _, c, _, rfl⟩, L', ?_, HL.out.turn hl' hk hg, (HK0.out.more fun _ _ e => e.elim).trans hk fun _ _ e => e, HGO.out W' L' hg⟩
          unfold Lg.d
          rw [hb, ha, ho]
          exact congrArg (Pl.mk _ _) (lops_filter L.ops fun o => !hasV v o.dot)
        · rw [if_neg hz] at he ⊢
          exact ⟨⟨_, _, _, _, he.1⟩, L, rfl, HL.out.fresh he.2, (HK0.out.more fun _ _ e => e.elim).trans he.2 fun _ _ e => e.elim, fun k hk => .inl hk⟩
      have HCU := Lib.hid hcu
      clear hcu
      have hcall : Calls Try.prog 18 #[.pointer (some ⟨p, 0, none⟩), .slice vA v.length vc] W1 fun e W' => (if cutErr L v = 0 then CutPost W1 p L v e W' else RefPost W1 (cutErr L v) e W') := by
        by_cases hz : cutErr L v = 0
        · simp only [if_pos hz]
          exact Cut_yes p L vA v vc _ HL.out.l HS.out.v HS.out.vl HVB.out hz
        · simp only [if_neg hz]
          exact Cut_no p L vA v vc _ HL.out.l HS.out.v HS.out.vl hz
      refine hcall.mono fun e W' he => ?_
      obtain ⟨⟨A, k, c, n, rfl⟩, hD⟩ := HCU.out e W' he
      have HD := Lib.hid hD
      clear hcall he hD
      go_wp2
      go_end0
      exact ⟨⟨_, rfl⟩, HD.out⟩
    · rw [if_neg h3]
      have e1 : (kind == 1) = false := beq_eq_false_iff_ne.mpr h1
      have e3 : (kind == 3) = false := beq_eq_false_iff_ne.mpr h3
      go_wp2
      go_end0
      exact ⟨⟨_, rfl⟩, L, rfl, HL.out, HK0.out.more fun _ _ e => e.elim, fun k hk => .inl hk⟩
end Go.Proofs.Ytnfehkncfjgeeaa

namespace Go.Proofs.Ytnfehkncfjgeeaa
open Go Go.RowKit

theorem und_step : ∃ d, Try.prog.underlying 47 = some d ∧ d.isRow = true := ⟨.struct (Try.prog.fieldsOf 47), by kernel_rfl, rfl⟩
theorem size_step : (Try.prog.info? 47).map (·.size) = some 13 := by kernel_rfl
theorem cell_spot {w : World} {q : Addr} {v : Value} (h : w.cell? q = some v) : q = ⟨q.block, q.off, none⟩ := by
  obtain ⟨b, o, s⟩ := q
  cases s with
  | none => rfl
  | some x =>
    unfold World.cell? at h
    simp only [Option.isSome_some, if_true] at h
    split at h <;> cases h
theorem load_stp {w : World} {ops : Array Oper} {rest : List Oper} {o : Oper} {a : Act} {Q : Exit → Act → World → Prop} (hgd : o.guard = none) (x : Operand) (ho : o.op = .load 47 x) (q : Addr) (hx : a.eval x = .pointer (some q)) (s : Stp)
    (h0 : w.cell? q = some (.int .i64 s.kind)) (h1 : w.rangeAt q.block (q.off + 1) s.x.c.toList) (h2 : w.cell? ⟨q.block, q.off + 12, none⟩ = some (.slice s.vA s.v.length s.vc))
    (h : wpList Try.prog ops Q rest (a.put o.dst (.agg s.c)) w) : wpList Try.prog ops Q (o :: rest) a w := by
  have hq := cell_spot h0
  obtain ⟨b, f, sp⟩ := q
  injection hq with _ _ hsp
  subst hsp
  obtain ⟨d, hu, hd⟩ := und_step
  refine wpList_load_mid hgd _ x ho b f hx s.c.toList d (fun j v hj => ?_) hu hd size_step ?_
  · have hj' : j < 13 := by
      have := (List.getElem?_eq_some_iff.1 hj).1
      simpa [Stp.c] using this
    have hr : ∀ i v, s.x.c.toList[i]? = some v → w.cell? ⟨b, f + (1 + i), none⟩ = some v := fun i v hi => by rw [← Nat.add_assoc]; exact h1 i v hi
    match j, hj' with
    | 0, _ => rw [← hj]; exact h0
    | 1, _ => exact hr 0 v hj
    | 2, _ => exact hr 1 v hj
    | 3, _ => exact hr 2 v hj
    | 4, _ => exact hr 3 v hj
    | 5, _ => exact hr 4 v hj
    | 6, _ => exact hr 5 v hj
    | 7, _ => exact hr 6 v hj
    | 8, _ => exact hr 7 v hj
    | 9, _ => exact hr 8 v hj
    | 10, _ => exact hr 9 v hj
    | 11, _ => exact hr 10 v hj
    | 12, _ => rw [← hj]; exact h2
  · rw [Array.toArray_toList]
    exact h
/-- A script as it is handed in. -/
structure ScrAt (w : World) (A : Option Addr) (l : List Stp) : Prop where
  steps : StepsAt w A l
  xs : ∀ s ∈ l, s.x.At w ∧ (∀ r ∈ s.x.o.gone, inI r.count) ∧ DotsAt w s.vA s.v
theorem ScrAt.ok {w : World} {A : Option Addr} {l : List Stp} {nb : Nat} (h : ScrAt w A l) (hm : muchB l nb = false) : (∀ s ∈ l, StepOk w s) ∧ l.length ≤ 200 ∧ nb ≤ 60000 := by
  unfold muchB at hm
  simp only [Bool.or_eq_false_iff, decide_eq_false_iff_not, Nat.not_lt] at hm
  refine ⟨fun s hs => ?_, hm.1.1.1, hm.1.1.2⟩
  have hb : s.big = false := by
    have := hm.1.2
    rw [List.any_eq_false] at this
    simpa using this s hs
  simp only [Stp.big, Bool.or_eq_false_iff, decide_eq_false_iff_not, Nat.not_lt] at hb
  obtain ⟨h1, h2, h3⟩ := h.xs s hs
  exact ⟨h1, h3, ⟨h2, by omega, by omega, by omega⟩, by omega⟩
theorem lacks_d (L : Lg) (hv : List Dt) : (lacks hv L.ops).map (·.o) = L.d.lacks hv := by
  unfold lacks Pl.lacks
  split
  · exact lops_filter L.ops fun o => !hasV hv o.dot
  · rfl
theorem sumR_bd {r : List Int} (hr : Row r) : ∀ k, 0 ≤ sumR r k ∧ sumR r k ≤ (k : Int) * 2147483647
  | 0 => by simp [sumR]
  | k + 1 => by
    have := sumR_bd hr k
    have := hr.bd k
    simp only [sumR]
    omega
end Go.Proofs.Ytnfehkncfjgeeaa

namespace Go.Proofs.Ytnfehkncfjgeeaa
open Go Go.RowKit

theorem neq_id_same (a b : Int) (W : World) : (binOp .neq 42 (.agg #[.int .i64 a, .int .i64 b]) (.agg #[.int .i64 a, .int .i64 b])).run Try.prog W = .ok (.bool false) W := by
  have hu : Try.prog.underlying 42 = some (.struct (Try.prog.fieldsOf 42)) := by kernel_rfl
  rw [run_neq_struct, run_equalIn_struct _ _ _ _ _ hu (by kernel_rfl), run_eqFields_id, Result.andThen_ok]
  simp
theorem run_eqFields_run (a b c : Int) (W : World) : (Op.eqFields 9999 #[.int .i64 a, .int .i64 b, .int .i64 c] #[.int .i64 a, .int .i64 b, .int .i64 c] (Try.prog.fieldsOf 87).toList).run Try.prog W = .ok true W := by
  have hf : (Try.prog.fieldsOf 87).toList.map (fun f => (decide (f.name = "_"), f.type, f.offset)) = [(false, 42, 0), (false, 3, 2)] := by kernel_rfl
  generalize (Try.prog.fieldsOf 87).toList = fs at hf ⊢
  have hl : fs.length = 2 := by have := congrArg List.length hf; simpa using this
  obtain ⟨f0, f1, rfl⟩ : ∃ f0 f1, fs = [f0, f1] := ⟨fs[0], fs[1], List.ext_getElem (by simp [hl]) fun i h1 h2 => by
    match i, h2 with
    | 0, _ => rfl
    | 1, _ => rfl⟩
  simp only [List.map_cons, List.map_nil, List.cons.injEq, Prod.mk.injEq, decide_eq_false_iff_not, and_true] at hf
  obtain ⟨⟨n0, t0, o0⟩, n1, t1, o1⟩ := hf
  have hu := Try.underlying3
  have e0 : (part 42 #[.int .i64 a, .int .i64 b, .int .i64 c] 0).run Try.prog W = .ok (.agg #[.int .i64 a, .int .i64 b]) W := run_part_id _ 0 _ _ W rfl
  have e1 : (part 3 #[.int .i64 a, .int .i64 b, .int .i64 c] 2).run Try.prog W = .ok (.int .i64 c) W := run_part_int _ 2 _ W rfl
  have c0 := run_equalIn_id 9996 a b a b W
  simp only [and_self, decide_true] at c0
  simp [Op.eqFields, n0, n1, t0, t1, o0, o1, e0, e1, c0, run_equalIn_int W 9998 3 .i64 .i64 _ _ hu]
theorem neq_run (a b c : Int) (W : World) : (binOp .neq 87 (.agg #[.int .i64 a, .int .i64 b, .int .i64 c]) (.agg #[.int .i64 a, .int .i64 b, .int .i64 c])).run Try.prog W = .ok (.bool false) W := by
  have hu : Try.prog.underlying 87 = some (.struct (Try.prog.fieldsOf 87)) := by kernel_rfl
  rw [run_neq_struct, run_equalIn_struct _ _ _ _ _ hu (by kernel_rfl), run_eqFields_run, Result.andThen_ok]
  rfl
theorem neq_dot_same (a b : Int) (W : World) : (binOp .neq 28 (.agg #[.int .i64 a, .int .i64 b]) (.agg #[.int .i64 a, .int .i64 b])).run Try.prog W = .ok (.bool false) W := by
  rw [neq_dot]
  simp
theorem box11 {w : World} {g : Nat} {t : TypeId} {a0 a1 a2 a3 a4 a5 a6 a7 a8 a9 a10 : Value} (h : Box w g t #[a0, a1, a2, a3, a4, a5, a6, a7, a8, a9, a10]) :
    w.cell? ⟨g, 0, none⟩ = some a0 ∧ w.cell? ⟨g, 1, none⟩ = some a1 ∧ w.cell? ⟨g, 2, none⟩ = some a2 ∧ w.cell? ⟨g, 3, none⟩ = some a3 ∧ w.cell? ⟨g, 4, none⟩ = some a4 ∧ w.cell? ⟨g, 5, none⟩ = some a5 ∧
    w.cell? ⟨g, 6, none⟩ = some a6 ∧ w.cell? ⟨g, 7, none⟩ = some a7 ∧ w.cell? ⟨g, 8, none⟩ = some a8 ∧ w.cell? ⟨g, 9, none⟩ = some a9 ∧ w.cell? ⟨g, 10, none⟩ = some a10 :=
  ⟨h.cell 0, h.cell 1, h.cell 2, h.cell 3, h.cell 4, h.cell 5, h.cell 6, h.cell 7, h.cell 8, h.cell 9, h.cell 10⟩
/-- Two operations in their boxes. -/
structure SmAt (w : World) (g h : Nat) (cs ds : Array Value) (gA hA : Option Addr) (l : List Rn) (W : World) : Prop where
  k : Kept (fun _ => False) w W
  b : Box W g 45 cs
  c : Box W h 45 ds
  r : RunsAt W gA l
  s : RunsAt W hA l
theorem SmAt.fresh {w : World} {g h : Nat} {cs ds : Array Value} {gA hA : Option Addr} {l : List Rn} {W W' : World} (z : SmAt w g h cs ds gA hA l W) (hk : Kept (fun _ => False) W W') : SmAt w g h cs ds gA hA l W' :=
  ⟨z.k.trans hk fun _ _ e => e, z.b.kept hk id, z.c.kept hk id, z.r.fresh hk, z.s.fresh hk⟩

set_option maxRecDepth 100000 in
set_option maxHeartbeats 3200000 in
theorem same_true (x y : Lop) (w : World) (hx : x.At w) (hy : y.At w) (he : y.o = x.o) (hd : x.o.deps.length ≤ 1000000) (hg : x.o.gone.length ≤ 1000000) :
    Calls Try.prog 28 #[.agg x.c, .agg y.c] w (BoolPost w true) := by
  have hk : Kept (fun _ => False) w ((w.alloc (.cells x.c 45)).alloc (.cells y.c 45)) := ((Kept.refl _ w).alloc _).alloc _
  have HZ := Lib.hid (show SmAt w w.heap.size (w.heap.size + 1) x.c y.c x.gA y.gA x.o.gone ((w.alloc (.cells x.c 45)).alloc (.cells y.c 45)) from
    ⟨hk, (Box.new w _ _).alloc _, by have := Box.new (w.alloc (.cells x.c 45)) 45 y.c; rwa [World.size_alloc] at this, hx.g.fresh hk, by have := hy.g.fresh hk; rwa [he] at this⟩)
  have HDX := Lib.hid (hx.d.fresh hk)
  have HDY := Lib.hid (show DotsAt ((w.alloc (.cells x.c 45)).alloc (.cells y.c 45)) y.dA x.o.deps by have := hy.d.fresh hk; rwa [he] at this)
  clear hk hx hy
  obtain ⟨⟨⟨ds, dq⟩, deps, kind, ⟨it, is⟩, ⟨rt, rs⟩, text, gone, site⟩, dA, dc, gA, gc⟩ := x
  obtain ⟨oy, dA', dc', gA', gc'⟩ := y
  simp only at he
  subst he
  unfold Lop.c Opr.cells at *
  simp only at *
  obtain ⟨c0, c1, c2, c3, c4, c5, c6, c7, c8, c9, c10⟩ := box11 HZ.out.b
  obtain ⟨d0, d1, d2, d3, d4, d5, d6, d7, d8, d9, d10⟩ := box11 HZ.out.c
  have n1 := neq_dot_same ds dq
  have n2 := neq_id_same it is
  have n3 := neq_id_same rt rs
  go_enter Try.func28, Try.ntmps28
  go_wp2_with (fail)
  refine (vectors_any dA dA' deps deps dc dc' _ HDX.out HDY.out (by omega)).mono ?_
  unfold SamePost
  rw [decide_eq_true rfl]
  rintro e w2 ⟨rfl, hk2⟩
  have HZ2 := Lib.hid (HZ.out.fresh hk2)
  clear hk2 HZ HDX HDY c0 c1 c2 c3 c4 c5 c6 c7 c8 c9 c10 d0 d1 d2 d3 d4 d5 d6 d7 d8 d9 d10 n1 n2 n3
  obtain ⟨-, -, -, -, -, -, -, -, -, c9, -⟩ := box11 HZ2.out.b
  obtain ⟨-, -, -, -, -, -, -, -, -, d9, -⟩ := box11 HZ2.out.c
  go_wp2_with (fail)
  clear c9 d9
  generalize w.heap.size = g1 at HZ2 ⊢
  go_loopw [5] (fun i wr => ∃ k : Nat, i = .int .i64 k ∧ k ≤ gone.length ∧ SmAt w g1 (g1 + 1) #[.int .i64 ds, .int .i64 dq, .slice dA deps.length dc, .int .i64 kind, .int .i64 it, .int .i64 is, .int .i64 rt, .int .i64 rs, .string text, .slice gA gone.length gc, .int .i64 site] #[.int .i64 ds, .int .i64 dq, .slice dA' deps.length dc', .int .i64 kind, .int .i64 it, .int .i64 is, .int .i64 rt, .int .i64 rs, .string text, .slice gA' gone.length gc', .int .i64 site] gA gA' gone wr) (fun i _ => gone.length - (intOf i).toNat)
  case atStart => exact ⟨0, rfl, Nat.zero_le _, HZ2.out⟩
  case round =>
    obtain ⟨k, rfl, hk, hz⟩ := hrel
    have HZ3 := Lib.hid hz
    clear HZ2 hz
    obtain ⟨-, -, -, -, -, -, -, -, -, c9, -⟩ := box11 HZ3.out.b
    obtain ⟨-, -, -, -, -, -, -, -, -, d9, -⟩ := box11 HZ3.out.c
    by_cases hlt : k < gone.length
    · obtain ⟨ad, rfl, x0, x1, x2⟩ := HZ3.out.r k hlt
      obtain ⟨ad', rfl, y0, y1, y2⟩ := HZ3.out.s k hlt
      generalize gone[k] = r at x0 x1 x2 y0 y1 y2
      have n := neq_run r.id.time r.id.site r.count
      go_wp2_with (fail)
      go_quiet (fail)
      go_wp2_with (fail)
      go_roundw
      case rel => exact ⟨k + 1, by go_num, by omega, HZ3.out.fresh ((Kept.refl _ _).drewN nq)⟩
      case measure => simp [intOf]; omega
    · obtain rfl : k = gone.length := by omega
      go_wp2
      go_ret
      exact ⟨rfl, HZ3.out.k⟩
end Go.Proofs.Ytnfehkncfjgeeaa

namespace Go.Proofs.Ytnfehkncfjgeeaa
open Go Go.RowKit

/-- A row of operations in memory. -/
structure RowAt (w : World) (A : Option Addr) (c : Nat) (ys : List Lop) : Prop where
  row : w.ownsRow 0 45 11 (.slice A ys.length c) ys.length (lops ys)
  ats : ∀ y ∈ ys, y.At w
theorem RowAt.fresh {w w' : World} {A : Option Addr} {c : Nat} {ys : List Lop} (h : RowAt w A c ys) (hk : Kept (fun _ => False) w w') : RowAt w' A c ys := ⟨hk.own h.row fun _ _ => id, fun y hy => (h.ats y hy).fresh hk⟩
theorem RowAt.of {w : World} {A : Option Addr} {c base : Nat} {ys : List Lop} (h : w.ownsRow base 45 11 (.slice A ys.length c) ys.length (lops ys)) (hl : OpLanes w base ys) : RowAt w A c ys := ⟨own_base h (Nat.zero_le _), fun y hy => (hl.own y hy).at⟩
theorem run_load_row {w : World} {a : Act} (op : Oper) (x : Operand) (ho : op.op = .load 45 x) (g k : Nat) (hx : a.eval x = .pointer (some ⟨g, k * 11, none⟩)) {base n c : Nat} (xs : List Lop)
    (hr : w.ownsRow base 45 11 (.slice (some ⟨g, 0, none⟩) n c) n (lops xs)) (hk : k < xs.length) (cs : Array Value) (hcs : xs[k].c = cs) : (execOp a.eval op).run Try.prog w = .ok (.value (.agg cs)) w := by
  obtain ⟨d, hu, hd⟩ := und_op
  have := run_loadVar_mid (P := Try.prog) w g (k * 11) 45 xs[k].c.toList d (range_of_row hr k hk) hu hd (by rw [Array.length_toList]; exact size_op)
  rw [Array.toArray_toList, hcs] at this
  unfold execOp
  simp only [ho, hx, Instr.loadAt, Instr.sureAddr, Sem.run_bind, Sem.run_pure, Result.andThen_ok, this]

set_option maxRecDepth 100000 in
set_option maxHeartbeats 3200000 in
theorem ops_true (A B : Option Addr) (ys zs : List Lop) (c d : Nat) (w : World) (hy : RowAt w A c ys) (hz : RowAt w B d zs) (he : zs.map (·.o) = ys.map (·.o)) (hl : ys.length ≤ 1000000)
    (hs : ∀ y ∈ ys, y.o.deps.length ≤ 1000000 ∧ y.o.gone.length ≤ 1000000) :
    Calls Try.prog 30 #[.slice A ys.length c, .slice B zs.length d] w (BoolPost w true) := by
  have hzl : zs.length = ys.length := by simpa using congrArg List.length he
  have HY := Lib.hid hy
  have HZ := Lib.hid hz
  have HE := Lib.hid he
  have HS := Lib.hid hs
  clear hy hz he hs
  rw [hzl]
  have HZL := Lib.hid hzl
  clear hzl
  go_enter Try.func30, Try.ntmps30
  go_wp2_with (fail)
  go_loopw [5] (fun i wr => ∃ k : Nat, i = .int .i64 k ∧ k ≤ ys.length ∧ Kept (fun _ => False) w wr) (fun i _ => ys.length - (intOf i).toNat)
  case atStart => exact ⟨0, rfl, Nat.zero_le _, Kept.refl _ _⟩
  case round =>
    obtain ⟨k, rfl, hk, hkk⟩ := hrel
    have HK := Lib.hid hkk
    by_cases hlt : k < ys.length
    · have hltz : k < zs.length := by rw [HZL.out]; exact hlt
      have hy' := (HY.out.fresh hkk).row
      have hz' := (HZ.out.fresh hkk).row
      obtain ⟨g, cap, hv, _⟩ := World.ownsRow.form hy' (by omega)
      obtain ⟨g', cap', hv', _⟩ := World.ownsRow.form hz' (by omega)
      injection hv with e1 _ e3
      injection hv' with e1' _ e3'
      clear e3 e3'
      obtain ⟨x, hx⟩ : ∃ x, ys[k] = x := ⟨_, rfl⟩
      obtain ⟨y, hyy⟩ : ∃ y, zs[k] = y := ⟨_, rfl⟩
      have hxy : y.o = x.o := by
        have := congrArg (fun l : List Opr => l[k]?) HE.out
        simp only [List.getElem?_map, List.getElem?_eq_getElem hlt, List.getElem?_eq_getElem hltz, Option.map_some, hx, hyy] at this
        injection this
      have hxm : x ∈ ys := by rw [← hx]; exact List.getElem_mem hlt
      have hym : y ∈ zs := by rw [← hyy]; exact List.getElem_mem hltz
      have HSAME := Lib.hid (fun W (hW : Kept (fun _ => False) w W) => same_true x y W ((HY.out.ats x hxm).fresh hW) ((HZ.out.ats y hym).fresh hW) hxy (HS.out x hxm).1 (HS.out x hxm).2)
      have HRY := Lib.hid (fun W (hW : Kept (fun _ => False) w W) => show W.ownsRow 0 45 11 (.slice (some ⟨g, 0, none⟩) ys.length c) ys.length (lops ys) by have := (HY.out.fresh hW).row; rwa [e1] at this)
      have HRZ := Lib.hid (fun W (hW : Kept (fun _ => False) w W) => show W.ownsRow 0 45 11 (.slice (some ⟨g', 0, none⟩) zs.length d) zs.length (lops zs) by have := (HZ.out.fresh hW).row; rwa [e1'] at this)
      obtain ⟨cs, hcs⟩ : ∃ cs, x.c = cs := ⟨_, rfl⟩
      obtain ⟨ds, hds⟩ : ∃ ds, y.c = ds := ⟨_, rfl⟩
      have HXC := Lib.hid (show ys[k].c = cs by rw [hx, hcs])
      have HYC := Lib.hid (show zs[k].c = ds by rw [hyy, hds])
      rw [hcs, hds] at HSAME
      rw [e1, e1']
      have hk0 : (0 : Int) ≤ (k : Int) := by omega
      have hkn : (k : Int) < (ys.length : Int) := by omega
      clear hcs hds hxm hym hxy hx hyy e1 e1' hy' hz' hkk HE
      go_wp2_with (fail)
      as_aux_lemma =>
        refine wp_region_held_drew (S := fun W => Kept (fun _ => False) w W) (by kernel_rfl) HK.out.drew fun hS => ?_
        generalize World.drew _ = w6 at hS ⊢
        refine held_takeTo 17 (i := 0) (v := .slice (some ⟨g, 0, none⟩) ys.length c) rfl rfl (by kernel_rfl) (by kernel_rfl) (by kernel_rfl) (fun _ _ _ h => h) rfl hS (fun W hW => by go_simp) ?_
        simp only [List.setIfInBounds_toArray, List.set_cons_zero, List.set_cons_succ]
        refine held_takeTo 18 (i := 1) (v := .int .i64 k) rfl rfl (by kernel_rfl) (by kernel_rfl) (by kernel_rfl) (fun _ _ _ h => h) rfl hS (fun W hW => by go_simp) ?_
        simp only [List.setIfInBounds_toArray, List.set_cons_zero, List.set_cons_succ]
        refine held_takeTo 19 (i := 2) (v := .pointer (some ⟨g, k * 11, none⟩)) rfl rfl (by kernel_rfl) (by kernel_rfl) (by kernel_rfl) (fun _ _ _ h => h) rfl hS (fun W hW => by go_simp) ?_
        simp only [List.setIfInBounds_toArray, List.set_cons_zero, List.set_cons_succ]
        refine held_takeTo 20 (i := 3) (v := .agg cs) rfl rfl (by kernel_rfl) (by kernel_rfl) (by kernel_rfl) (fun _ _ _ h => h) rfl hS (fun W hW => run_load_row _ _ rfl g k rfl ys (HRY.out W hW) hlt cs HXC.out) ?_
        simp only [List.setIfInBounds_toArray, List.set_cons_zero, List.set_cons_succ]
        refine held_takeTo 21 (i := 4) (v := .slice (some ⟨g', 0, none⟩) ys.length d) rfl rfl (by kernel_rfl) (by kernel_rfl) (by kernel_rfl) (fun _ _ _ h => h) rfl hS (fun W hW => by go_simp) ?_
        simp only [List.setIfInBounds_toArray, List.set_cons_zero, List.set_cons_succ]
        refine held_takeTo 22 (i := 5) (v := .int .i64 k) rfl rfl (by kernel_rfl) (by kernel_rfl) (by kernel_rfl) (fun _ _ _ h => h) rfl hS (fun W hW => by go_simp) ?_
        simp only [List.setIfInBounds_toArray, List.set_cons_zero, List.set_cons_succ]
        refine held_takeTo 23 (i := 6) (v := .pointer (some ⟨g', k * 11, none⟩)) rfl rfl (by kernel_rfl) (by kernel_rfl) (by kernel_rfl) (fun _ _ _ h => h) rfl hS (fun W hW => by go_simp) ?_
        simp only [List.setIfInBounds_toArray, List.set_cons_zero, List.set_cons_succ]
        refine held_takeTo 24 (i := 7) (v := .agg ds) rfl rfl (by kernel_rfl) (by kernel_rfl) (by kernel_rfl) (fun _ _ _ h => h) rfl hS (fun W hW => run_load_row _ _ rfl g' k rfl zs (HRZ.out W hW) hltz ds HYC.out) ?_
        simp only [List.setIfInBounds_toArray, List.set_cons_zero, List.set_cons_succ]
        refine held_one (i := 8) (by kernel_rfl) rfl fun K hK => ?_
        go_wp2_with (fail)
        refine (HSAME.out w6 hS).mono ?_
        unfold BoolPost
        rintro e w7 ⟨rfl, hk7⟩
        have hS7 := hS.trans hk7 fun _ _ e => e
        clear hk7
        go_wp2_with (fail)
        refine hK.out _ _ hS7 fun _ => ?_
        clear hK K
        refine held_one (i := 9) (by kernel_rfl) rfl fun K hK => ?_
        go_wp2_with (fail)
        refine hK.out _ _ hS7 fun _ => ?_
        clear hK K
        refine wpAnyH_done (by kernel_rfl) ?_ _
        have HS7 := Lib.hid hS7
        clear hS7 hS
        go_wp2_with (fail)
        go_roundw
        case rel => exact ⟨k + 1, by go_num, by omega, HS7.out⟩
        case measure => simp [intOf]; omega
    · obtain rfl : k = ys.length := by omega
      clear hkk
      go_wp2
      go_ret
      exact ⟨rfl, HK.out⟩
end Go.Proofs.Ytnfehkncfjgeeaa

namespace Go.Proofs.Ytnfehkncfjgeeaa
open Go Go.RowKit

theorem LogAt.stays {W W' : World} {p q : Nat} {L M : Lg} (h : LogAt W q M) (hl : LogAt W p L) (hk : Kept (fun k => k = p ∨ L.oV.ownBlock = some k) W W') (hne : p ≠ q) (hap : Apart L.oV M.oV) : LogAt W' q M := by
  have hs : ∀ {T : TypeId}, T ≠ 45 → T ≠ 51 → NoKind W (fun k => k = p ∨ L.oV.ownBlock = some k) T := fun h1 h2 k hk cs c hc => by
    rcases hk with rfl | hk
    · exact NoKind.box hl.box h2 k rfl cs c hc
    · exact NoKind.own hl.o h1 k hk cs c hc
  refine ⟨h.box.kept hk fun e => ?_, hk.own_kind (hs (by decide) (by decide)) h.b, hk.own_kind (hs (by decide) (by decide)) h.a, hk.own h.o fun k hk' e => ?_, fun x hx => (h.own x hx).kept hk (hs (by decide) (by decide)) (hs (by decide) (by decide)), h.small, h.bl, h.al, h.ol⟩
  · rcases e with e | e
    · exact hne e.symm
    · exact own_box_ne hl.o h.box (by decide) e
  · rcases e with rfl | e
    · exact own_box_ne h.o hl.box (by decide) hk'
    · exact hap k e hk'
/-- Two logs in memory, apart. -/
structure TwoLogs (w : World) (p q : Nat) (L M : Lg) (W : World) : Prop where
  l : LogOf w p L W
  m : LogOf w q M W
  ne : p ≠ q
  ap : Apart L.oV M.oV
section
variable {w W W' : World} {p q : Nat} {L L' M M' : Lg}
theorem TwoLogs.fresh (h : TwoLogs w p q L M W) (hk : Kept (fun _ => False) W W') : TwoLogs w p q L M W' := ⟨h.l.fresh hk, h.m.fresh hk, h.ne, h.ap⟩
theorem TwoLogs.turnL (h : TwoLogs w p q L M W) (hl : LogOf w p L' W') (hk : Kept (fun k => k = p ∨ L.oV.ownBlock = some k) W W') (hg : Goes W L.oV L'.oV) : TwoLogs w p q L' M W' :=
  ⟨hl, ⟨h.m.l.stays h.l.l hk h.ne h.ap, hl.k, h.m.ge, h.m.ov⟩, h.ne, fun k h1 h2 => by
    rcases hg k h1 with e | e
    · exact h.ap k e h2
    · have := (h.m.l.o.lt k h2).2; omega⟩
theorem TwoLogs.swap (h : TwoLogs w p q L M W) : TwoLogs w q p M L W := ⟨h.m, h.l, fun e => h.ne e.symm, h.ap.symm⟩
theorem TwoLogs.turnR (h : TwoLogs w p q L M W) (hm : LogOf w q M' W') (hk : Kept (fun k => k = q ∨ M.oV.ownBlock = some k) W W') (hg : Goes W M.oV M'.oV) : TwoLogs w p q L M' W' := (h.swap.turnL hm hk hg).swap
end

/-! cutting twice -/
theorem hasR_max (u v : List Int) (d : Dt) : hasR (maxR u v) d = (hasR u d || hasR v d) := by
  unfold hasR
  by_cases hs : siteB d.site = true
  · have h1 : 1 ≤ d.site ∧ d.site ≤ 16 := by simpa [siteB] using hs
    rw [if_pos hs, if_pos hs, if_pos hs, rg_max _ _ (by omega), Bool.eq_iff_iff, Bool.or_eq_true, decide_eq_true_iff, decide_eq_true_iff, decide_eq_true_iff]
    omega
  · rw [if_neg hs, if_neg hs, if_neg hs, Bool.or_self]
theorem cut_all (P : Pl) (a : List Dt) : (P.cut a).all = P.all := by unfold Pl.cut; split <;> rfl
theorem cutErr_eq {P Q : Pl} (h : P.all = Q.all) (b : List Dt) : P.cutErr b = Q.cutErr b := by unfold Pl.cutErr; rw [h]
theorem cutErr_zero {P : Pl} {a : List Dt} : P.cutErr a = 0 ↔ checkV a = 0 ∧ coversR (says P.all) (says a) = true := by
  unfold Pl.cutErr
  by_cases h1 : checkV a = 0
  · rw [if_neg (by simp [h1])]
    cases hc : coversR (says P.all) (says a) with
    | true => simp [h1]
    | false => simp
  · rw [if_pos h1]
    exact ⟨fun h => absurd h h1, fun h => absurd h.1 h1⟩
section
variable {P : Pl} {a b : List Dt}
def bothV (a b : List Dt) : List Dt := vec (maxR (says a) (says b))
theorem says_both : says (bothV a b) = maxR (says a) (says b) := says_vec ((Row.says a).maxR (Row.says b))
theorem both_err (ha : P.cutErr a = 0) (hb : P.cutErr b = 0) : P.cutErr (bothV a b) = 0 := by
  rw [cutErr_zero] at *
  exact ⟨check_vec ((Row.says a).maxR (Row.says b)), by rw [says_both, cov_of_max, ha.2, hb.2]; rfl⟩
theorem has_both (d : Dt) : hasV (bothV a b) d = (hasV a d || hasV b d) := by
  rw [hasV_eq, says_both, hasR_max]
  rfl
theorem filter_count {α : Type} (f g : α → Bool) (l : List α) : (l.filter f).length + ((l.filter fun x => !f x).filter g).length = (l.filter fun x => f x || g x).length := by
  induction l with
  | nil => rfl
  | cons x l ih =>
    cases hf : f x <;> cases hg : g x <;> simp [hf, hg] at ih ⊢ <;> omega
theorem filter_parts {α : Type} (f : α → Bool) (l : List α) : (l.filter f).length + (l.filter fun x => !f x).length = l.length := by
  induction l with
  | nil => rfl
  | cons x l ih =>
    simp only [List.filter_cons]
    cases hf : f x <;> simp <;> omega
theorem cut_twice (ha : P.cutErr a = 0) (hb : P.cutErr b = 0) : (P.cut a).cut b = P.cut (bothV a b) := by
  have hb' : (P.cut a).cutErr b = 0 := by rw [cutErr_eq (cut_all P a)]; exact hb
  have e1 : P.cut a = ⟨vec (maxR (says P.base) (says a)), P.all, P.ops.filter fun o => !hasV a o.dot⟩ := if_pos ha
  have e2 : (P.cut a).cut b = ⟨vec (maxR (says (P.cut a).base) (says b)), (P.cut a).all, (P.cut a).ops.filter fun o => !hasV b o.dot⟩ := if_pos hb'
  have e3 : P.cut (bothV a b) = ⟨vec (maxR (says P.base) (says (bothV a b))), P.all, P.ops.filter fun o => !hasV (bothV a b) o.dot⟩ := if_pos (both_err ha hb)
  rw [e2, e3, e1]
  simp only [Pl.mk.injEq, true_and]
  refine ⟨?_, ?_⟩
  · rw [says_vec ((Row.says P.base).maxR (Row.says a)), says_both, max_assoc']
  · rw [List.filter_filter]
    congr 1
    funext o
    rw [has_both]
    cases hasV a o.dot <;> cases hasV b o.dot <;> rfl
end
end Go.Proofs.Ytnfehkncfjgeeaa

namespace Go.Proofs.Ytnfehkncfjgeeaa
open Go Go.RowKit

theorem d_len {L M : Lg} (h : L.d = M.d) : L.ops.length = M.ops.length := by
  have := congrArg (fun P : Pl => P.ops.length) h
  simpa [Lg.d] using this
/-- Behind the script: two logs alike; what was kept; a vector. -/
structure CuA (w : World) (p q : Nat) (L M : Lg) (WA : Option Addr) (wc : Nat) (ws : List Lop) (V : Option Addr) (vc : Nat) (v : List Dt) (W : World) : Prop where
  t : TwoLogs w p q L M W
  r : W.ownsRow 0 45 11 (.slice WA ws.length wc) ws.length (lops ws)
  n : OpLanes W 0 ws
  v : W.ownsRow 0 28 2 (.slice V v.length vc) v.length (dots v)
  al : Apart (.slice WA ws.length wc) L.oV
  am : Apart (.slice WA ws.length wc) M.oV
theorem OpLanes.base {w : World} {b b' : Nat} {ys : List Lop} (h : OpLanes w b ys) (hb : b' ≤ b) : OpLanes w b' ys := ⟨fun y hy => ⟨own_base (h.own y hy).d hb, own_base (h.own y hy).g hb⟩, h.apart⟩
section
variable {w W W' : World} {p q : Nat} {L M L' M' : Lg} {WA V : Option Addr} {wc vc : Nat} {ws : List Lop} {v : List Dt}
theorem CuA.fresh (h : CuA w p q L M WA wc ws V vc v W) (hk : Kept (fun _ => False) W W') : CuA w p q L M WA wc ws V vc v W' := ⟨h.t.fresh hk, hk.own h.r fun _ _ => id, h.n.fresh hk, hk.own h.v fun _ _ => id, h.al, h.am⟩
theorem goes_apart {X : Value} {b n s : Nat} {e : TypeId} {xs : List Value} (hX : W.ownsRow b e s X n xs) (h : Apart X L.oV) (hg : Goes W L.oV L'.oV) : Apart X L'.oV := fun k hk hk' => by
  rcases hg k hk' with e | e
  · exact h k hk e
  · have := (hX.lt k hk).2; omega
theorem log_kinds (h : LogAt W p L) {T : TypeId} (h1 : T ≠ 45) (h2 : T ≠ 51) : NoKind W (fun k => k = p ∨ L.oV.ownBlock = some k) T := fun k hk cs c hc => by
  rcases hk with rfl | hk
  · exact NoKind.box h.box h2 k rfl cs c hc
  · exact NoKind.own h.o h1 k hk cs c hc
theorem CuA.turnL (h : CuA w p q L M WA wc ws V vc v W) (hl : LogOf w p L' W') (hk : Kept (fun k => k = p ∨ L.oV.ownBlock = some k) W W') (hg : Goes W L.oV L'.oV) : CuA w p q L' M WA wc ws V vc v W' :=
  ⟨h.t.turnL hl hk hg, hk.own h.r fun k hk' e => by
    rcases e with rfl | e
    · exact own_box_ne h.r h.t.l.l.box (by decide) hk'
    · exact h.al k hk' e, h.n.kept hk (log_kinds h.t.l.l (by decide) (by decide)) (log_kinds h.t.l.l (by decide) (by decide)), hk.own_kind (log_kinds h.t.l.l (by decide) (by decide)) h.v, goes_apart h.r h.al hg, h.am⟩
theorem CuA.swap (h : CuA w p q L M WA wc ws V vc v W) : CuA w q p M L WA wc ws V vc v W := ⟨h.t.swap, h.r, h.n, h.v, h.am, h.al⟩
theorem CuA.turnR (h : CuA w p q L M WA wc ws V vc v W) (hl : LogOf w q M' W') (hk : Kept (fun k => k = q ∨ M.oV.ownBlock = some k) W W') (hg : Goes W M.oV M'.oV) : CuA w p q L M' WA wc ws V vc v W' := (h.swap.turnL hl hk hg).swap
theorem CuA.other (h : CuA w p q L M WA wc ws V vc v W) {V' : Option Addr} {vc' : Nat} {v' : List Dt} (hk : Kept (fun _ => False) W W') (hv : W'.ownsRow W.heap.size 28 2 (.slice V' v'.length vc') v'.length (dots v')) : CuA w p q L M WA wc ws V' vc' v' W' :=
  ⟨h.t.fresh hk, hk.own h.r fun _ _ => id, h.n.fresh hk, own_base hv (Nat.zero_le _), h.al, h.am⟩
theorem CuA.made (h : TwoLogs w p q L M W) (hk : Kept (fun _ => False) W W') (hr : W'.ownsRow W.heap.size 45 11 (.slice WA ws.length wc) ws.length (lops ws)) (hn : OpLanes W' W.heap.size ws) : CuA w p q L M WA wc ws none 0 [] W' :=
  ⟨h.fresh hk, own_base hr (Nat.zero_le _), hn.base (Nat.zero_le _), World.ownsRow_nil _ _ _ _, fun k h1 h2 => by have := (hr.lt k h1).1; have := (h.l.l.o.lt k h2).2; omega, fun k h1 h2 => by have := (hr.lt k h1).1; have := (h.m.l.o.lt k h2).2; omega⟩
theorem CuA.row (h : CuA w p q L M WA wc ws V vc v W) : RowAt W WA wc ws := ⟨h.r, fun y hy => (h.n.own y hy).at⟩
/-- At the end: all that is only read from here on. -/
structure CuE (w : World) (WA : Option Addr) (wc : Nat) (ws : List Lop) (ZA : Option Addr) (zc : Nat) (zs : List Lop) (LA : Option Addr) (lc : Nat) (ls : List Lop) (CA : Option Addr) (bo : List Dt) (W : World) : Prop where
  k : Kept (fun _ => False) w W
  r : RowAt W WA wc ws
  z : RowAt W ZA zc zs
  l : RowAt W LA lc ls
  b : DotsAt W CA bo
theorem CuE.fresh {ZA LA CA : Option Addr} {zc lc : Nat} {zs ls : List Lop} {bo : List Dt} (h : CuE w WA wc ws ZA zc zs LA lc ls CA bo W) (hk : Kept (fun _ => False) W W') : CuE w WA wc ws ZA zc zs LA lc ls CA bo W' := ⟨h.k.trans hk fun _ _ e => e, h.r.fresh hk, h.z.fresh hk, h.l.fresh hk, h.b.fresh hk⟩
theorem older (h : TwoLogs w p q L M W) {H : Option Addr} {hv : List Dt} (hd : DotsAt w H hv) (h0 : 0 < hv.length) (a : Addr) (ha : H = some a) : L.oV.ownBlock ≠ some a.block := fun e => by
  have := dots_lt hd h0 a ha
  have := h.l.ov _ e
  omega
theorem newer (h : LogAt W q M) {H : Option Addr} {n c : Nat} {e : TypeId} {xs : List Value} (hv : W'.ownsRow W.heap.size e 2 (.slice H n c) n xs) (a : Addr) (ha : H = some a) : M.oV.ownBlock ≠ some a.block := fun e => by
  subst ha
  have := (hv.lt a.block rfl).1
  have := (h.o.lt _ e).2
  omega
theorem cut_yes_facts {a V : List Dt} (hv : L.all = V) (h : cutErr L a = 0) : checkV a = 0 ∧ coversR (says V) (says a) = true := by subst hv; exact (cutErr_zero (P := L.d)).1 h
theorem cut_no_facts {a V : List Dt} (hv : L.all = V) (h : ¬ cutErr L a = 0) (hc : checkV a = 0) : coversR (says V) (says a) = false := by
  subst hv
  cases he : coversR (says L.all) (says a) with
  | false => rfl
  | true => exact absurd ((cutErr_zero (P := L.d)).2 ⟨hc, he⟩) h
theorem cut_d {a : List Dt} (h : cutErr L a = 0) (hb : L'.base = vec (maxR (says L.base) (says a))) (ha : L'.all = L.all) (ho : L'.ops = L.ops.filter fun x => !hasV a x.o.dot) : L'.d = L.d.cut a := by
  have h' : L.d.cutErr a = 0 := h
  unfold Pl.cut
  rw [if_pos h']
  unfold Lg.d
  rw [hb, ha, ho]
  exact congrArg (Pl.mk _ _) (lops_filter L.ops fun o => !hasV a o.dot)
theorem cut_len {a : List Dt} {gs : List Lop} (h : gs.map (·.o) = (L.ops.filter fun x => hasV a x.o.dot).map (·.o)) : gs.map (·.o) = L.d.ops.filter fun o => hasV a o.dot := h.trans (lops_filter L.ops fun o => hasV a o.dot)
theorem both_zero {a b bo : List Dt} (hd : L.d = M.d) (ha : cutErr L a = 0) (h1 : L'.d = L.d.cut a) (hb : cutErr L' b = 0) (hbo : bothV a b = bo) : cutErr M bo = 0 := by
  subst hbo
  have e1 : L.d.cutErr b = 0 := by rw [← cutErr_eq (cut_all L.d a), ← h1]; exact hb
  have := both_err (P := L.d) ha e1
  rw [hd] at this
  exact this
theorem both_cut {a b bo : List Dt} {L2 : Lg} {xs ys zs ws : List Lop} (hd : L.d = M.d) (ha : cutErr L a = 0) (h1 : L'.d = L.d.cut a) (hb : cutErr L' b = 0) (h2 : L2.d = L'.d.cut b) (hbo : bothV a b = bo) (h3 : M'.d = M.d.cut bo)
    (hx : xs.map (·.o) = L.d.ops.filter fun o => hasV a o.dot) (hy : ys.map (·.o) = L'.d.ops.filter fun o => hasV b o.dot) (hz : zs.map (·.o) = M.d.ops.filter fun o => hasV bo o.dot) (hw : ws.map (·.o) = L.d.ops) :
    L2.d = M'.d ∧ xs.length + ys.length = zs.length ∧ zs.length + M'.ops.length = ws.length ∧ zs.map (·.o) = (ws.map (·.o)).filter (fun o => hasV bo o.dot) ∧ M'.ops.map (·.o) = (ws.map (·.o)).filter (fun o => !hasV bo o.dot) := by
  have e1 : L.d.cutErr b = 0 := by rw [← cutErr_eq (cut_all L.d a), ← h1]; exact hb
  have e0 : M.d.cutErr bo = 0 := both_zero hd ha h1 hb hbo
  have hl1 : L'.d.ops = L.d.ops.filter fun o => !hasV a o.dot := by rw [h1]; unfold Pl.cut; rw [if_pos (show L.d.cutErr a = 0 from ha)]
  have hm1 : M'.d.ops = M.d.ops.filter fun o => !hasV bo o.dot := by rw [h3]; unfold Pl.cut; rw [if_pos e0]
  have hml : M'.ops.length = M'.d.ops.length := (List.length_map _).symm
  have hxl := congrArg List.length hx
  have hyl := congrArg List.length hy
  have hzl := congrArg List.length hz
  have hwl := congrArg List.length hw
  rw [List.length_map] at hxl hyl hzl hwl
  rw [hl1] at hyl
  rw [← hd] at hzl hz hm1
  refine ⟨by rw [h2, h1, h3, ← hd, ← hbo]; exact cut_twice ha e1, ?_, ?_, by rw [hw]; exact hz, by rw [hw]; exact hm1⟩
  · rw [hxl, hyl, hzl, filter_count, ← hbo]
    simp only [has_both]
  · rw [hml, hm1, hzl, hwl, filter_parts]
end
/-! along a list and what a test keeps of it -/
theorem filter_at {α : Type} (f : α → Bool) (l : List α) (i : Nat) (hi : i < l.length) (hf : f l[i] = true) : (l.filter f)[((l.take i).filter f).length]? = some l[i] := by
  have e : l = l.take i ++ l[i] :: l.drop (i + 1) := by rw [← List.drop_eq_getElem_cons hi, List.take_append_drop]
  have : l.filter f = (l.take i).filter f ++ l[i] :: (l.drop (i + 1)).filter f := by
    conv => lhs; rw [e]
    rw [List.filter_append, List.filter_cons, if_pos hf]
  rw [this, List.getElem?_append_right (Nat.le_refl _), Nat.sub_self]
  rfl
theorem filter_up {α : Type} (f : α → Bool) (l : List α) (i : Nat) (hi : i < l.length) : ((l.take (i + 1)).filter f).length = ((l.take i).filter f).length + if f l[i] = true then 1 else 0 := by
  rw [List.take_succ_eq_append_getElem hi, List.filter_append, List.length_append, List.filter_cons]
  split <;> simp
theorem lacks_none (l : List Lop) : lacks [] l = l := by
  have h : checkV [] = 0 := rfl
  have h2 : ∀ d : Dt, hasV [] d = false := fun d => by
    unfold hasV
    simp only [decide_eq_false_iff_not, not_and, Int.not_le]
    intro h1
    have : getV [] d.site = 0 := by
      unfold getV
      split
      · exact rg_row0 _
      · rfl
    omega
  unfold lacks
  rw [if_pos h]
  simp [h2]
/-- A guarded operation that reads, where its guard is met. -/
theorem held_takeG {P : Program} {ops : Array Oper} {md : Region.Mode} {Q : Exit → Act → World → Prop} {S : World → Prop} {i : Nat} {oi : Oper} {v : Value} {fuel : Nat} {listed : Array Bool} {a : Act} {w : World} (t : Tmp) (hi : ops[i]? = some oi) (hd : oi.dst = some t)
    (hs : Region.noSelect ops = true) (hf : Region.free md ops listed i = true) (hr : (Region.ready md ops listed).contains i = true)
    (hQ : ∀ c a w, Q (.panic c) (a.put (some t) v) w → Q (.panic c) a w) (hg : Region.wanted oi (yielded ops a.tmps) = true) (hS : S w) (hy : ∀ w, S w → (execOp a.eval oi).run P w = .ok (.value v) w)
    (h : wpAnyH P md ops Q S fuel (listed.setIfInBounds i true) { a with tmps := a.tmps.setIfInBounds t v } w) : wpAnyH P md ops Q S (fuel + 1) listed a w :=
  wpAnyH_take hi hs hf hr (by rw [hd]; exact hQ) (.inl ⟨hg, hy⟩) hS (by rw [hd]; exact h)
def kcnt (f : Opr → Bool) (ws : List Lop) (j : Nat) : Nat := (((ws.map (·.o)).take j).filter f).length
theorem kcnt_zero (f : Opr → Bool) (ws : List Lop) : kcnt f ws 0 = 0 := rfl
theorem kcnt_up (f : Opr → Bool) (ws : List Lop) (j : Nat) (hj : j < ws.length) : kcnt f ws (j + 1) = kcnt f ws j + if f ws[j].o = true then 1 else 0 := by
  have h := filter_up f (ws.map (·.o)) j (by simpa using hj)
  rw [List.getElem_map] at h
  exact h
theorem pick_at {f : Opr → Bool} {ws zs : List Lop} (hz : zs.map (·.o) = (ws.map (·.o)).filter f) (j : Nat) (hj : j < ws.length) (hf : f ws[j].o = true) : ∃ h : kcnt f ws j < zs.length, zs[kcnt f ws j].o = ws[j].o := by
  have := filter_at f (ws.map (·.o)) j (by simpa using hj) (by simpa using hf)
  rw [← hz, List.getElem?_map, List.getElem_map] at this
  have hc : (((ws.map (·.o)).take j).filter f).length = kcnt f ws j := rfl
  rw [hc] at this
  cases he : zs[kcnt f ws j]? with
  | none => rw [he] at this; cases this
  | some z =>
    rw [he] at this
    injection this with e
    obtain ⟨h, h2⟩ := List.getElem?_eq_some_iff.1 he
    exact ⟨h, by rw [h2]; exact e⟩
theorem pick_n {f : Opr → Bool} {ws zs : List Lop} (hz : zs.map (·.o) = (ws.map (·.o)).filter f) (j : Nat) (hj : j < ws.length) (hf : f ws[j].o = true) (n : Nat) (hn : kcnt f ws j = n) : ∃ h : n < zs.length, zs[n].o = ws[j].o := by
  subst hn
  exact pick_at hz j hj hf
end Go.Proofs.Ytnfehkncfjgeeaa

namespace Go.Proofs.Ytnfehkncfjgeeaa
open Go Go.RowKit

theorem lops_map (l : List Lop) : lops l = (l.map Lop.c).flatMap (·.toList) := by simp [lops, List.flatMap_map]
theorem lops_same {R : List Lop} {i : Nat} (hi : i < R.length) {y : Lop} (hy : y.c = R[i].c) : lops (R.set i y) = lops R := by
  rw [lops_map, lops_map, List.map_set, hy]
  have : (R.map Lop.c)[i]'(by simpa using hi) = R[i].c := by simp
  rw [← this, List.set_getElem_self]
theorem dots_store (l : List Dt) (k : Nat) (hk : k < l.length) (d : Dt) : dots (l.set k d) = ((dots l).set (k * 2) (.int .i64 d.site)).set (k * 2 + 1) (.int .i64 d.seq) := by
  induction l generalizing k with
  | nil => simp at hk
  | cons x l ih =>
    cases k with
    | zero => rfl
    | succ k =>
      have e2 : (k + 1) * 2 = k * 2 + 2 := by omega
      have := ih k (by simpa using hk)
      rw [e2]
      simpa [dots] using this
theorem runs_store (l : List Rn) (k : Nat) (hk : k < l.length) (d : Rn) : runs (l.set k d) = (((runs l).set (k * 3) (.int .i64 d.id.time)).set (k * 3 + 1) (.int .i64 d.id.site)).set (k * 3 + 2) (.int .i64 d.count) := by
  induction l generalizing k with
  | nil => simp at hk
  | cons x l ih =>
    cases k with
    | zero => rfl
    | succ k =>
      have e2 : (k + 1) * 3 = k * 3 + 3 := by omega
      have := ih k (by simpa using hk)
      rw [e2]
      simpa [runs] using this
theorem own_cells {w : World} {base s n c : Nat} {e : TypeId} {A : Option Addr} {xs : List Value} (h : w.ownsRow base e s (.slice A n c) n xs) (hn : 0 < n) : ∃ g, A = some ⟨g, 0, none⟩ ∧ (Value.slice A n c).ownBlock = some g ∧ (∀ j v, xs[j]? = some v → w.cell? ⟨g, j, none⟩ = some v) ∧ ∀ j, w.frozen? ⟨g, j, none⟩ = false := by
  obtain ⟨g, cap, hv, _, _⟩ := World.ownsRow.form h hn
  injection hv with e1 _ e3
  subst e1 e3
  refine ⟨g, rfl, rfl, fun j v hj => ?_, fun j => World.ownsRow.frozenAt h j⟩
  have := h.cells (g := g) rfl j v hj
  rwa [add_none] at this
section
variable {w w1 w2 w3 W W1 W2 W3 : World} {lo hi n c : Nat} {A : Option Addr} {R : List Lop} {S : Nat → Prop}
/-- One operation of a row is another one: its lists at the old ones' place. -/
theorem OpLanes.turn (h : OpLanes w lo R) {i : Nat} (hi : i < R.length) {y : Lop} (hk : Kept S w w1) (hS : ∀ j (hj : j < R.length), j ≠ i → (∀ k, R[j].dV.ownBlock = some k → ¬ S k) ∧ ∀ k, R[j].gV.ownBlock = some k → ¬ S k)
    (hy : y.Own w1 lo) (hd : ∀ k, y.dV.ownBlock = some k → R[i].dV.ownBlock = some k) (hg : ∀ k, y.gV.ownBlock = some k → R[i].gV.ownBlock = some k) : OpLanes w1 lo (R.set i y) := by
  have hne : ∀ j (hj : j < R.length), j ≠ i → Apart R[j].dV R[i].dV ∧ Apart R[j].gV R[i].gV := fun j hj hji => by
    have := List.pairwise_iff_getElem.1 h.apart
    rcases Nat.lt_or_ge j i with h1 | h1
    · exact this j i hj hi h1
    · exact ⟨(this i j hi hj (by omega)).1.symm, (this i j hi hj (by omega)).2.symm⟩
  refine ⟨fun z hz => ?_, ?_⟩
  · obtain ⟨j, hj, rfl⟩ := List.getElem_of_mem hz
    simp only [List.length_set] at hj
    rw [List.getElem_set]
    split
    · exact hy
    · rename_i hji
      have hz := h.own _ (List.getElem_mem hj)
      obtain ⟨s1, s2⟩ := hS j hj fun e => hji e.symm
      exact ⟨hk.own hz.d s1, hk.own hz.g s2⟩
  · rw [List.pairwise_iff_getElem]
    intro a b ha hb hab
    simp only [List.length_set] at ha hb
    rw [List.getElem_set, List.getElem_set]
    by_cases h1 : i = a
    · rw [if_pos h1, if_neg (by omega)]
      obtain ⟨p1, p2⟩ := hne b hb (by omega)
      exact ⟨fun k e1 e2 => p1 k e2 (hd k e1), fun k e1 e2 => p2 k e2 (hg k e1)⟩
    · rw [if_neg h1]
      by_cases h2 : i = b
      · rw [if_pos h2]
        obtain ⟨p1, p2⟩ := hne a ha (by omega)
        exact ⟨fun k e1 e2 => p1 k e1 (hd k e2), fun k e1 e2 => p2 k e1 (hg k e2)⟩
      · rw [if_neg h2]
        exact List.pairwise_iff_getElem.1 h.apart a b ha hb hab
/-- The row while its lists are written over: from block lo on, below block hi. -/
structure Wi (lo hi : Nat) (A : Option Addr) (n c : Nat) (w : World) (R : List Lop) (W : World) : Prop where
  k : Kept (fun b => lo ≤ b ∧ b < hi) w W
  len : R.length = n
  row : W.ownsRow lo 45 11 (.slice A n c) n (lops R)
  lanes : OpLanes W lo R
  small : ∀ x ∈ R, x.o.deps.length ≤ 1000000 ∧ x.o.gone.length ≤ 1000000
  dlt : ∀ x ∈ R, ∀ k, x.dV.ownBlock = some k → k < hi
  glt : ∀ x ∈ R, ∀ k, x.gV.ownBlock = some k → k < hi
  rlt : ∀ k, (Value.slice A n c).ownBlock = some k → k < hi
  lo : lo ≤ W.heap.size
theorem Wi.fresh (h : Wi lo hi A n c w R W) (hk : Kept (fun _ => False) W W1) : Wi lo hi A n c w R W1 :=
  ⟨h.k.trans hk fun _ _ e => e.elim, h.len, hk.own h.row fun _ _ => id, h.lanes.fresh hk, h.small, h.dlt, h.glt, h.rlt, Nat.le_trans h.lo hk.size⟩
theorem Wi.turn (h : Wi lo hi A n c w R W) {i : Nat} (hi' : i < R.length) {y : Lop} (hk : Kept S W W1) (hS : ∀ k, S k → R[i].dV.ownBlock = some k ∨ R[i].gV.ownBlock = some k)
    (hy : y.Own W1 lo) (hc : y.c = R[i].c) (hd : y.dV = R[i].dV) (hg : y.gV = R[i].gV) (hdl : y.o.deps.length = R[i].o.deps.length) (hgl : y.o.gone.length = R[i].o.gone.length) : Wi lo hi A n c w (R.set i y) W1 := by
  have hm := List.getElem_mem hi'
  have ho := h.lanes.own _ hm
  have hne : ∀ j (hj : j < R.length), j ≠ i → Apart R[j].dV R[i].dV ∧ Apart R[j].gV R[i].gV := fun j hj hji => by
    have := List.pairwise_iff_getElem.1 h.lanes.apart
    rcases Nat.lt_or_ge j i with h1 | h1
    · exact this j i hj hi' h1
    · exact ⟨(this i j hi' hj (by omega)).1.symm, (this i j hi' hj (by omega)).2.symm⟩
  have hmem : ∀ x ∈ R.set i y, x = y ∨ x ∈ R := fun x hx => (List.mem_or_eq_of_mem_set hx).symm
  refine ⟨h.k.trans hk fun k hk e => ?_, by rw [List.length_set]; exact h.len, ?_, h.lanes.turn hi' hk (fun j hj hji => ?_) hy (fun k e => by rwa [hd] at e) (fun k e => by rwa [hg] at e), fun x hx => ?_, fun x hx => ?_, fun x hx => ?_, h.rlt, Nat.le_trans h.lo hk.size⟩
  · rcases hS k e with e | e
    · exact ⟨(ho.d.lt k e).1, h.dlt _ hm k e⟩
    · exact ⟨(ho.g.lt k e).1, h.glt _ hm k e⟩
  · rw [lops_same hi' hc]
    refine hk.own h.row fun k e1 e2 => ?_
    rcases hS k e2 with e | e
    · exact own_other h.row ho.d (by decide) k e1 e
    · exact own_other h.row ho.g (by decide) k e1 e
  · have hz := h.lanes.own _ (List.getElem_mem hj)
    obtain ⟨p1, p2⟩ := hne j hj hji
    refine ⟨fun k e1 e2 => ?_, fun k e1 e2 => ?_⟩
    · rcases hS k e2 with e | e
      · exact p1 k e1 e
      · exact own_other hz.d ho.g (by decide) k e1 e
    · rcases hS k e2 with e | e
      · exact own_other hz.g ho.d (by decide) k e1 e
      · exact p2 k e1 e
  · rcases hmem x hx with rfl | hx
    · rw [hdl, hgl]; exact h.small _ hm
    · exact h.small x hx
  · rcases hmem x hx with rfl | hx
    · rw [hd]; exact h.dlt _ hm
    · exact h.dlt x hx
  · rcases hmem x hx with rfl | hx
    · rw [hg]; exact h.glt _ hm
    · exact h.glt x hx
/-- A Dot of a list is written over. -/
theorem Wi.dot (h : Wi lo hi A n c w R W) {i k : Nat} (hi' : i < R.length) {x : Lop} (hx : R[i] = x) (hk : k < x.o.deps.length) (d : Dt) :
    ∃ g, x.dA = some ⟨g, 0, none⟩ ∧ W.cell? ⟨g, k * 2, none⟩ = some (.int .i64 x.o.deps[k].site) ∧ W.cell? ⟨g, k * 2 + 1, none⟩ = some (.int .i64 x.o.deps[k].seq) ∧ (∀ j, W.frozen? ⟨g, j, none⟩ = false) ∧
      Wi lo hi A n c w (R.set i { x with o := { x.o with deps := x.o.deps.set k d } }) ((W.setCell ⟨g, k * 2, none⟩ (.int .i64 d.site)).setCell ⟨g, k * 2 + 1, none⟩ (.int .i64 d.seq)) := by
  subst hx
  have ho := h.lanes.own _ (List.getElem_mem hi')
  obtain ⟨g, hA, hb, hc, hf⟩ := own_cells ho.d (by omega)
  obtain ⟨g0, g1⟩ := dots_get R[i].o.deps k hk
  have hd := ho.d
  unfold Lop.dV at hd
  rw [hA] at hd hb
  have h1 := World.ownsRow.stored hd (k * 2) (.int .i64 d.site)
  have h2 := World.ownsRow.stored h1.1 (k * 2 + 1) (.int .i64 d.seq)
  rw [← dots_store _ k hk] at h2
  have hK : Kept (fun b => b = g) W ((W.setCell ⟨g, k * 2, none⟩ (.int .i64 d.site)).setCell ⟨g, k * 2 + 1, none⟩ (.int .i64 d.seq)) := Kept.at (g := g) (Kept.at (g := g) (Kept.refl (fun b => b = g) _) _ _ (.inl rfl)) _ _ (.inl rfl)
  have hbR : R[i].dV.ownBlock = some g := by unfold Lop.dV; rw [hA]; exact hb
  refine ⟨g, hA, hc _ _ g0, hc _ _ g1, hf, h.turn hi' hK (fun b e => .inl (by rw [e]; exact hbR)) ⟨?_, ?_⟩ ?_ ?_ rfl ?_ rfl⟩
  · unfold Lop.dV
    simp only [List.length_set, hA]
    exact h2.1
  · exact hK.own ho.g fun b e1 e2 => own_other ho.g ho.d (by decide) b e1 (by rw [e2]; exact hbR)
  · unfold Lop.c Opr.cells
    simp only [List.length_set]
  · unfold Lop.dV
    simp only [List.length_set]
  · simp only [List.length_set]
/-- A run of a list is written over. -/
theorem Wi.run (h : Wi lo hi A n c w R W) {i k : Nat} (hi' : i < R.length) {x : Lop} (hx : R[i] = x) (hk : k < x.o.gone.length) (d : Rn) :
    ∃ g, x.gA = some ⟨g, 0, none⟩ ∧ W.cell? ⟨g, k * 3, none⟩ = some (.int .i64 x.o.gone[k].id.time) ∧ W.cell? ⟨g, k * 3 + 1, none⟩ = some (.int .i64 x.o.gone[k].id.site) ∧ W.cell? ⟨g, k * 3 + 2, none⟩ = some (.int .i64 x.o.gone[k].count) ∧ (∀ j, W.frozen? ⟨g, j, none⟩ = false) ∧
      Wi lo hi A n c w (R.set i { x with o := { x.o with gone := x.o.gone.set k d } }) (((W.setCell ⟨g, k * 3, none⟩ (.int .i64 d.id.time)).setCell ⟨g, k * 3 + 1, none⟩ (.int .i64 d.id.site)).setCell ⟨g, k * 3 + 2, none⟩ (.int .i64 d.count)) := by
  subst hx
  have ho := h.lanes.own _ (List.getElem_mem hi')
  obtain ⟨g, hA, hb, hc, hf⟩ := own_cells ho.g (by omega)
  obtain ⟨g0, g1, g2⟩ := runs_get R[i].o.gone k hk
  have hd := ho.g
  unfold Lop.gV at hd
  rw [hA] at hd hb
  have h1 := World.ownsRow.stored hd (k * 3) (.int .i64 d.id.time)
  have h2 := World.ownsRow.stored h1.1 (k * 3 + 1) (.int .i64 d.id.site)
  have h3 := World.ownsRow.stored h2.1 (k * 3 + 2) (.int .i64 d.count)
  rw [← runs_store _ k hk] at h3
  have hK : Kept (fun b => b = g) W (((W.setCell ⟨g, k * 3, none⟩ (.int .i64 d.id.time)).setCell ⟨g, k * 3 + 1, none⟩ (.int .i64 d.id.site)).setCell ⟨g, k * 3 + 2, none⟩ (.int .i64 d.count)) := Kept.at (g := g) (Kept.at (g := g) (Kept.at (g := g) (Kept.refl (fun b => b = g) _) _ _ (.inl rfl)) _ _ (.inl rfl)) _ _ (.inl rfl)
  have hbR : R[i].gV.ownBlock = some g := by unfold Lop.gV; rw [hA]; exact hb
  refine ⟨g, hA, hc _ _ g0, hc _ _ g1, hc _ _ g2, hf, h.turn hi' hK (fun b e => .inr (by rw [e]; exact hbR)) ⟨?_, ?_⟩ ?_ rfl ?_ rfl ?_⟩
  · exact hK.own ho.d fun b e1 e2 => own_other ho.d ho.g (by decide) b e1 (by rw [e2]; exact hbR)
  · unfold Lop.gV
    simp only [List.length_set, hA]
    exact h3.1
  · unfold Lop.c Opr.cells
    simp only [List.length_set]
  · unfold Lop.gV
    simp only [List.length_set]
  · simp only [List.length_set]
/-- Its lists are gone on from, and another operation without lists is stored. -/
theorem Wi.mid (h : Wi lo hi A n c w R W) {i : Nat} (hi' : i < R.length) {x : Lop} (hx : R[i] = x) (h1 : Kept (fun b => x.dV.ownBlock = some b) W W1) : W1.ownsRow lo 87 3 x.gV x.o.gone.length (runs x.o.gone) ∧ W1.ownsRow lo 45 11 (.slice A n c) n (lops R) := by
  subst hx
  have ho := h.lanes.own _ (List.getElem_mem hi')
  exact ⟨h1.own ho.g fun b e1 e2 => own_other ho.g ho.d (by decide) b e1 e2, h1.own h.row fun b e1 e2 => own_other h.row ho.d (by decide) b e1 e2⟩
theorem Wi.mid2 (h : Wi lo hi A n c w R W) {i : Nat} (hi' : i < R.length) {x : Lop} (hx : R[i] = x) (h1 : Kept (fun b => x.dV.ownBlock = some b) W W1) (h2 : Kept (fun b => x.gV.ownBlock = some b) W1 W2) : W2.ownsRow lo 45 11 (.slice A n c) n (lops R) := by
  obtain ⟨m1, m2⟩ := h.mid hi' hx h1
  exact h2.own m2 fun b e1 e2 => own_other m2 m1 (by decide) b e1 e2
theorem Wi.over (h : Wi lo hi A n c w R W) {i : Nat} (hi' : i < R.length) {x y : Lop} (hx : R[i] = x) (h1 : Kept (fun b => x.dV.ownBlock = some b) W W1) (h2 : Kept (fun b => x.gV.ownBlock = some b) W1 W2) {g : Nat} (hg : (Value.slice A n c).ownBlock = some g) (h3 : Kept (fun b => b = g) W2 W3)
    (hr : W3.ownsRow lo 45 11 (.slice A n c) n (lops (R.set i y))) (hy : y.dV = .slice none 0 0 ∧ y.gV = .slice none 0 0 ∧ y.o.deps = [] ∧ y.o.gone = []) : Wi lo hi A n c w (R.set i y) W3 := by
  obtain ⟨y1, y2, y3, y4⟩ := hy
  have hk : Kept (fun b => x.dV.ownBlock = some b ∨ x.gV.ownBlock = some b ∨ b = g) W W3 := ((h1.more fun _ _ e => .inl e).trans h2 fun b _ e => .inr (.inl e)).trans h3 fun b _ e => .inr (.inr e)
  subst hx
  have hm := List.getElem_mem hi'
  have ho := h.lanes.own _ hm
  have hne : ∀ j (hj : j < R.length), j ≠ i → Apart R[j].dV R[i].dV ∧ Apart R[j].gV R[i].gV := fun j hj hji => by
    have := List.pairwise_iff_getElem.1 h.lanes.apart
    rcases Nat.lt_or_ge j i with h1 | h1
    · exact this j i hj hi' h1
    · exact ⟨(this i j hi' hj (by omega)).1.symm, (this i j hi' hj (by omega)).2.symm⟩
  have hmem : ∀ x ∈ R.set i y, x = y ∨ x ∈ R := fun x hx => (List.mem_or_eq_of_mem_set hx).symm
  have hgl := h.row.lt g hg
  refine ⟨h.k.trans hk fun b hb e => ?_, by rw [List.length_set]; exact h.len, hr, h.lanes.turn hi' hk (fun j hj hji => ?_) ⟨?_, ?_⟩ (fun k e => ?_) (fun k e => ?_), fun x hx => ?_, fun x hx => ?_, fun x hx => ?_, h.rlt, Nat.le_trans h.lo hk.size⟩
  · rcases e with e | e | rfl
    · exact ⟨(ho.d.lt b e).1, h.dlt _ hm b e⟩
    · exact ⟨(ho.g.lt b e).1, h.glt _ hm b e⟩
    · exact ⟨hgl.1, h.rlt _ hg⟩
  · have hz := h.lanes.own _ (List.getElem_mem hj)
    obtain ⟨p1, p2⟩ := hne j hj hji
    refine ⟨fun k e1 e2 => ?_, fun k e1 e2 => ?_⟩
    · rcases e2 with e | e | rfl
      · exact p1 k e1 e
      · exact own_other hz.d ho.g (by decide) k e1 e
      · exact own_other hz.d h.row (by decide) _ e1 hg
    · rcases e2 with e | e | rfl
      · exact own_other hz.g ho.d (by decide) k e1 e
      · exact p2 k e1 e
      · exact own_other hz.g h.row (by decide) _ e1 hg
  · rw [y1, y3]; exact World.ownsRow_nil _ _ _ _
  · rw [y2, y4]; exact World.ownsRow_nil _ _ _ _
  · rw [y1] at e; cases e
  · rw [y2] at e; cases e
  · rcases hmem x hx with rfl | hx
    · rw [y3, y4]; exact ⟨by simp, by simp⟩
    · exact h.small x hx
  · rcases hmem x hx with rfl | hx
    · rw [y1]; intro k e; cases e
    · exact h.dlt x hx
  · rcases hmem x hx with rfl | hx
    · rw [y2]; intro k e; cases e
    · exact h.glt x hx
end
section
variable {w : World} {ops : Array Oper} {rest : List Oper} {o : Oper} {a : Act} {Q : Exit → Act → World → Prop}
/-- One operation is stored at place i of a row. -/
theorem wpList_store_lop (hgd : o.guard = none) (d s : Operand) (ho : o.op = .store 45 d s)
    {base g m c i : Nat} (R : List Lop) (hr : w.ownsRow base 45 11 (.slice (some ⟨g, 0, none⟩) m c) m (lops R)) (hn : i < m)
    (hd : a.eval d = .pointer (some ⟨g, i * 11, none⟩)) (x : Lop) (cs : Array Value) (hcs : x.c = cs) (hs : a.eval s = .agg cs)
    (h : ∀ w', Hid (w'.ownsRow base 45 11 (.slice (some ⟨g, 0, none⟩) m c) m (lops (R.set i x))) → Hid (Kept (fun k => k = g) w w') → wpList Try.prog ops Q rest (a.put o.dst undef) w') :
    wpList Try.prog ops Q (o :: rest) a w := by
  subst hcs
  refine wpList_plain hgd fun K hK => ?_
  have hR := hr.1
  rw [lops_len] at hR
  have hRm : R.length = m := by omega
  rcases hr.2 with ⟨h', _⟩ | ⟨g', cap, cur, hv, hb, hg, hnc, hcm, hcs, htake⟩
  · cases h'
  injection hv with e1 _ e3
  injection e1 with e1
  injection e1 with e1
  subst e1 e3
  obtain ⟨i0, hi, _, hz, _⟩ := info_parts info_op
  have hc11 : x.c.toList.length = 11 := by rw [Array.length_toList, Lop.c_size]
  have hmul : i * 11 + 11 ≤ m * 11 := by omega
  have hcap : m * 11 ≤ c * 11 := Nat.mul_le_mul_right _ hnc
  have hst := run_storeCells_at Try.prog g (i * 11) 45 x.c.toList 0 cur w hg (by rw [hc11, hcs]; omega) (fun v hv => List.all_eq_true.1 x.c_one v hv)
  rw [hc11] at hst
  simp only [Nat.add_zero] at hst
  have hrun : (storeVar 45 ⟨g, i * 11, none⟩ (.agg x.c)).run Try.prog w = .ok () (w.setRow g (cur.toList.take (i * 11) ++ x.c.toList ++ cur.toList.drop (i * 11 + 11)).toArray) := by
    have e : x.c.size = i0.size := by rw [hz]; rfl
    simp [storeVar, sizeOf, typeInfo, hi, Value.cells, e, hst]
  unfold Oper.wp execOp
  simp only [ho, hd, hs, Instr.storeAt, Instr.sureAddr, Sem.run_bind, Sem.run_pure, Result.andThen_ok, hrun]
  refine hK _ _ (h _ ?_ (setRow_kept _ _ _))
  refine ⟨by rw [lops_len, List.length_set]; omega, .inr ⟨g, c, _, rfl, hb, setRow_heap' w g cur _ _ hg, hnc, hcm, ?_, ?_⟩⟩
  · have : cur.toList.length = c * 11 := by rw [Array.length_toList, hcs]
    simp [hc11, this]
    omega
  · have hcl : cur.toList.length = c * 11 := by rw [Array.length_toList, hcs]
    rw [lops_set R i (by omega) x, ← htake]
    apply List.ext_getElem?
    intro j
    simp only [List.getElem?_take, List.getElem?_append, List.getElem?_drop, List.length_append, List.length_take, hc11, hcl]
    have e1 : min (i * 11) (c * 11) = i * 11 := Nat.min_eq_left (by omega)
    have e2 : min (i * 11) (min (m * 11) (c * 11)) = i * 11 := by omega
    rw [e1, e2]
    by_cases h2 : j < i * 11
    · have hj : j < m * 11 := by omega
      have h1 : j < i * 11 + 11 := by omega
      simp only [if_pos h2, if_pos hj, if_pos h1]
    · by_cases h1 : j < i * 11 + 11
      · have hj : j < m * 11 := by omega
        simp only [if_neg h2, if_pos hj, if_pos h1]
      · have e4 : i * 11 + 11 + (j - (i * 11 + 11)) = j := by omega
        simp only [if_neg h2, if_neg h1, e4]
end
end Go.Proofs.Ytnfehkncfjgeeaa

namespace Go.Proofs.Ytnfehkncfjgeeaa
open Go Go.RowKit

theorem Wi.head {w W : World} {lo hi n c : Nat} {A : Option Addr} {R : List Lop} (h : Wi lo hi A n c w R W) {i : Nat} (hi' : i < n) : ∃ gr x, A = some ⟨gr, 0, none⟩ ∧ (∃ hl : i < R.length, R[i] = x) ∧ W.cell? ⟨gr, i * 11 + 2, none⟩ = some (.slice x.dA x.o.deps.length x.dc) ∧ W.cell? ⟨gr, i * 11 + 9, none⟩ = some (.slice x.gA x.o.gone.length x.gc) ∧ x.o.deps.length ≤ 1000000 ∧ x.o.gone.length ≤ 1000000 := by
  have hl : i < R.length := by rw [h.len]; exact hi'
  obtain ⟨g, hA, hb, hc, hf⟩ := own_cells h.row (by omega)
  obtain ⟨s1, s2⟩ := h.small _ (List.getElem_mem hl)
  exact ⟨g, R[i], hA, ⟨hl, rfl⟩, hc _ _ (by rw [lops_get R i hl 2 (by omega)]; rfl), hc _ _ (by rw [lops_get R i hl 9 (by omega)]; rfl), s1, s2⟩

theorem row_head {W : World} {lo g n c : Nat} {R : List Lop} {x : Lop} (h : W.ownsRow lo 45 11 (.slice (some ⟨g, 0, none⟩) n c) n (lops R)) {i : Nat} (hl : i < R.length) (hx : R[i] = x) : W.cell? ⟨g, i * 11 + 2, none⟩ = some (.slice x.dA x.o.deps.length x.dc) ∧ W.cell? ⟨g, i * 11 + 9, none⟩ = some (.slice x.gA x.o.gone.length x.gc) := by
  subst hx
  have hn := h.1
  rw [lops_len] at hn
  obtain ⟨g', hA, hb, hc, hf⟩ := own_cells h (by omega)
  injection hA with hA
  injection hA with hA _ _
  subst hA
  exact ⟨hc _ _ (by rw [lops_get R i hl 2 (by omega)]; rfl), hc _ _ (by rw [lops_get R i hl 9 (by omega)]; rfl)⟩
def WipePost (lo hi : Nat) (w : World) (e : Ending) (w' : World) : Prop := (∃ v, e = .returned v) ∧ Kept (fun b => lo ≤ b ∧ b < hi) w w'
set_option maxRecDepth 100000 in
set_option maxHeartbeats 3200000 in
theorem wipe_any (lo hi : Nat) (A : Option Addr) (n c : Nat) (R0 : List Lop) (w : World) (h : Wi lo hi A n c w R0 w) (hn : n ≤ 1000000) :
    Calls Try.prog 38 #[.slice A n c] w (WipePost lo hi w) := by
  have HZ := Lib.hid h
  clear h
  go_enter Try.func38, Try.ntmps38
  go_wp2_with (fail)
  go_loopw [2] (fun i wr => ∃ (k : Nat) (R : List Lop), i = .int .i64 k ∧ k ≤ n ∧ Wi lo hi A n c w R wr) (fun i _ => n - (intOf i).toNat)
  case atStart => exact ⟨0, R0, rfl, by omega, HZ.out⟩
  case round =>
    obtain ⟨k, R, rfl, hk, hz⟩ := hrel
    have HW := Lib.hid hz
    clear HZ hz
    by_cases hlt : k < n
    · obtain ⟨wo, rfl⟩ : ∃ wo : World, wo = wr := ⟨_, rfl⟩
      go_wp2_with (fail)
      as_aux_lemma =>
        go_loopw [3] (fun j wr => ∃ (t : Nat) (R : List Lop), j = .int .i64 t ∧ t ≤ 1000000 ∧ Wi lo hi A n c w R wr) (fun j _ => 1000000 - (intOf j).toNat)
        case atStart => exact ⟨0, R, rfl, by omega, HW.out⟩
        case round =>
          clear HW
          obtain ⟨t, R, rfl, ht, hz⟩ := hrel
          obtain ⟨gr, x, rfl, ⟨hkl, hx⟩, x2, x9, sd, sg⟩ := hz.head hlt
          have HW := Lib.hid hz
          have HX := Lib.hid hx
          clear hx
          by_cases htl : t < x.o.deps.length
          · obtain ⟨g, hA, y0, y1, f, hW⟩ := hz.dot hkl HX.out htl ⟨((100 + k : Nat) : Int), 0⟩
            rw [hA] at x2
            have f0 := f (t * 2)
            have f1 := f (t * 2 + 1)
            have hw : IntKind.i64.wrap (100 + (k : Int)) = 100 + (k : Int) := IntWalk.i64_in _ ⟨by omega, by omega⟩
            have H2 := Lib.hid hW
            clear f hW hA x9 hz
            go_wp2_with (fail)
            go_roundw
            case rel =>
              have h2 := H2.out
              have e1 : (100 : Int) + (k : Int) = ((100 + k : Nat) : Int) := by omega
              rw [← e1] at h2
              exact ⟨t + 1, _, by go_num, by omega, h2⟩
            case measure => simp [intOf]; omega
          · have htl' : x.o.deps.length ≤ t := by omega
            clear hz htl
            obtain ⟨wi, rfl⟩ : ∃ wi : World, wi = wr := ⟨_, rfl⟩
            go_wp2_with (fail)
            clear x2 x9 htl' HX
            as_aux_lemma =>
              go_loopw [4] (fun j wr => ∃ (t : Nat) (R : List Lop), j = .int .i64 t ∧ t ≤ 1000000 ∧ Wi lo hi (some ⟨gr, 0, none⟩) n c w R wr) (fun j _ => 1000000 - (intOf j).toNat)
              case atStart => exact ⟨0, R, rfl, by omega, HW.out⟩
              case round =>
                clear HW
                obtain ⟨t, R, rfl, ht, hz⟩ := hrel
                obtain ⟨gr', x, e, ⟨hkl, hx⟩, x2, x9, sd, sg⟩ := hz.head hlt
                injection e with e
                injection e with e _ _
                subst e
                have HW := Lib.hid hz
                have HX := Lib.hid hx
                clear hx
                by_cases htl : t < x.o.gone.length
                · obtain ⟨g, hA, y0, y1, y2, f, hW⟩ := hz.run hkl HX.out htl ⟨⟨0, 0⟩, ((100 + k : Nat) : Int)⟩
                  rw [hA] at x9
                  have f0 := f (t * 3)
                  have f1 := f (t * 3 + 1)
                  have f2 := f (t * 3 + 2)
                  have hw : IntKind.i64.wrap (100 + (k : Int)) = 100 + (k : Int) := IntWalk.i64_in _ ⟨by omega, by omega⟩
                  have H2 := Lib.hid hW
                  clear f hW hA x2 hz
                  go_wp2_with (fail)
                  go_roundw
                  case rel =>
                    have h2 := H2.out
                    have e1 : (100 : Int) + (k : Int) = ((100 + k : Nat) : Int) := by omega
                    rw [← e1] at h2
                    exact ⟨t + 1, _, by go_num, by omega, h2⟩
                  case measure => simp [intOf]; omega
                · have htl' : x.o.gone.length ≤ t := by omega
                  have HD := Lib.hid (show wr.ownsRow lo 28 2 (.slice x.dA x.o.deps.length x.dc) x.o.deps.length (dots x.o.deps) by rw [← HX.out]; exact (hz.lanes.own _ (List.getElem_mem hkl)).d)
                  have HLO := Lib.hid hz.lo
                  clear hz htl
                  go_wp2_with (at_builtin; refine Hid.out ?_)
                  clear x2 x9
                  refine Lib.hid ?_
                  refine wpList_append_new eltDots rfl _ _ rfl lo _ x.o.deps.length (dots x.o.deps) rfl HD.out 1 1 rfl rfl rfl (by omega) HLO.out ?_
                  intro A' c' w1 HO1 HK1 HG1
                  obtain ⟨m1, m2⟩ := HW.out.mid hkl HX.out HK1.out
                  have x9 := (row_head m2 hkl HX.out).2
                  have HM1 := Lib.hid (show w1.ownsRow lo 87 3 (.slice x.gA x.o.gone.length x.gc) x.o.gone.length (runs x.o.gone) from m1)
                  clear m1 m2 HD HO1 HG1
                  go_wp2_with (at_builtin; refine Hid.out ?_)
                  clear x9
                  refine Lib.hid ?_
                  refine wpList_append_new eltRuns rfl _ _ rfl lo _ x.o.gone.length (runs x.o.gone) rfl HM1.out 1 1 rfl rfl rfl (by omega) (Nat.le_trans HLO.out HK1.out.size) ?_
                  intro A2 c2 w2 HO2 HK2 HG2
                  have HR := Lib.hid (HW.out.mid2 hkl HX.out HK1.out HK2.out)
                  clear HM1 HO2 HG2
                  have hw : IntKind.i64.wrap (((x.o.deps.length + 1 : Nat) : Int) + ((x.o.gone.length + 1 : Nat) : Int)) = ((x.o.deps.length + 1 : Nat) : Int) + ((x.o.gone.length + 1 : Nat) : Int) := IntWalk.i64_in _ ⟨by omega, by omega⟩
                  go_wp2_with (refine wpList_store_lop rfl _ _ rfl R HR.out hlt rfl ⟨⟨⟨0, 0⟩, [], 0, ⟨0, 0⟩, ⟨0, 0⟩, ⟨#[]⟩, [], ((x.o.deps.length + 1 : Nat) : Int) + ((x.o.gone.length + 1 : Nat) : Int)⟩, none, 0, none, 0⟩ _ rfl rfl ?_)
                  intro w3 HR3 HK3
                  go_wp2
                  go_roundw
                  case rel => exact ⟨k + 1, _, by go_num, by omega, HW.out.over hkl HX.out HK1.out HK2.out rfl HK3.out HR3.out ⟨rfl, rfl, rfl, rfl⟩⟩
                  case measure => simp [intOf]; omega
    · obtain rfl : k = n := by omega
      go_wp2
      go_end0
      exact ⟨⟨_, rfl⟩, HW.out.k⟩
end Go.Proofs.Ytnfehkncfjgeeaa

namespace Go.Proofs.Ytnfehkncfjgeeaa
open Go Go.RowKit

theorem dots_turn {w : World} {base n c : Nat} {A : Option Addr} {l : List Dt} (h : w.ownsRow base 28 2 (.slice A n c) n (dots l)) {k : Nat} (hk : k < n) (d : Dt) :
    ∃ g a b, A = some ⟨g, 0, none⟩ ∧ (Value.slice A n c).ownBlock = some g ∧ w.cell? ⟨g, k * 2, none⟩ = some a ∧ w.cell? ⟨g, k * 2 + 1, none⟩ = some b ∧ (∀ j, w.frozen? ⟨g, j, none⟩ = false) ∧
      ((w.setCell ⟨g, k * 2, none⟩ (.int .i64 d.site)).setCell ⟨g, k * 2 + 1, none⟩ (.int .i64 d.seq)).ownsRow base 28 2 (.slice A n c) n (dots (l.set k d)) ∧
      Kept (fun b => b = g) w ((w.setCell ⟨g, k * 2, none⟩ (.int .i64 d.site)).setCell ⟨g, k * 2 + 1, none⟩ (.int .i64 d.seq)) := by
  have hn := h.1
  rw [dots_len] at hn
  have hl : k < l.length := by omega
  obtain ⟨g, hA, hb, hc, hf⟩ := own_cells h (by omega)
  obtain ⟨g0, g1⟩ := dots_get l k hl
  subst hA
  have h1 := World.ownsRow.stored h (k * 2) (.int .i64 d.site)
  have h2 := World.ownsRow.stored h1.1 (k * 2 + 1) (.int .i64 d.seq)
  rw [← dots_store _ k hl] at h2
  exact ⟨g, _, _, rfl, hb, hc _ _ g0, hc _ _ g1, hf, h2.1, Kept.at (g := g) (Kept.at (g := g) (Kept.refl (fun b => b = g) _) _ _ (.inl rfl)) _ _ (.inl rfl)⟩
/-- Two vectors in memory of their own, new since w. -/
structure OwV (w : World) (V : Option Addr) (n c : Nat) (vl : List Dt) (U : Option Addr) (m d : Nat) (ul : List Dt) (W : World) : Prop where
  k : Kept (fun _ => False) w W
  v : W.ownsRow w.heap.size 28 2 (.slice V n c) n (dots vl)
  u : W.ownsRow w.heap.size 28 2 (.slice U m d) m (dots ul)
  ap : Apart (.slice V n c) (.slice U m d)
section
variable {w W W1 W2 : World} {V U : Option Addr} {n c m d : Nat} {vl ul : List Dt}
theorem OwV.fresh (h : OwV w V n c vl U m d ul W) (hk : Kept (fun _ => False) W W1) : OwV w V n c vl U m d ul W1 := ⟨h.k.trans hk fun _ _ e => e, hk.own h.v fun _ _ => id, hk.own h.u fun _ _ => id, h.ap⟩
theorem OwV.swap (h : OwV w V n c vl U m d ul W) : OwV w U m d ul V n c vl W := ⟨h.k, h.u, h.v, h.ap.symm⟩
theorem OwV.made (hk : Kept (fun _ => False) w W) (hv : W.ownsRow w.heap.size 28 2 (.slice V n c) n (dots vl)) (hk1 : Kept (fun _ => False) W W1) (hu : W1.ownsRow W.heap.size 28 2 (.slice U m d) m (dots ul)) : OwV w V n c vl U m d ul W1 :=
  ⟨hk.trans hk1 fun _ _ e => e, hk1.own hv fun _ _ => id, own_base hu hk.size, fun k e1 e2 => by have := (hv.lt k e1).2; have := (hu.lt k e2).1; omega⟩
theorem OwV.dot (h : OwV w V n c vl U m d ul W) {k : Nat} (hk : k < n) (x : Dt) : ∃ g a b, V = some ⟨g, 0, none⟩ ∧ W.cell? ⟨g, k * 2, none⟩ = some a ∧ W.cell? ⟨g, k * 2 + 1, none⟩ = some b ∧ (∀ j, W.frozen? ⟨g, j, none⟩ = false) ∧
    OwV w V n c (vl.set k x) U m d ul ((W.setCell ⟨g, k * 2, none⟩ (.int .i64 x.site)).setCell ⟨g, k * 2 + 1, none⟩ (.int .i64 x.seq)) := by
  obtain ⟨g, a, b, hA, hb, y0, y1, f, ho, hK⟩ := dots_turn h.v hk x
  refine ⟨g, a, b, hA, y0, y1, f, h.k.trans hK fun k hk e => ?_, ho, hK.own h.u fun k e1 e2 => ?_, h.ap⟩
  · have := (h.v.lt g hb).1; omega
  · exact h.ap k (by rw [e2]; exact hb) e1
theorem OwV.go (h : OwV w V n c vl U m d ul W) (hk : Kept (fun k => (Value.slice V n c).ownBlock = some k) W W1) {A' : Option Addr} {c' : Nat} {x : Dt} (ho : W1.ownsRow w.heap.size 28 2 (.slice A' (n + 1) c') (n + 1) (dots (vl ++ [x]))) (hg : Goes W (.slice V n c) (.slice A' (n + 1) c')) :
    OwV w A' (n + 1) c' (vl ++ [x]) U m d ul W1 := by
  refine ⟨h.k.trans hk fun k hk e => ?_, ho, hk.own h.u fun k e1 e2 => h.ap k e2 e1, fun k e1 e2 => ?_⟩
  · have := (h.v.lt k e).1; omega
  · rcases hg k e1 with e | e
    · exact h.ap k e e2
    · have := (h.u.lt k e2).2; omega
theorem OwV.last {x : Dt} (h : OwV w V (n + 1) c (vl ++ [x]) U m d ul W) : ∃ g, V = some ⟨g, 0, none⟩ ∧ W.cell? ⟨g, n * 2, none⟩ = some (.int .i64 x.site) := by
  have hn := h.v.1
  rw [dots_len, List.length_append, List.length_singleton] at hn
  obtain ⟨g, hA, hb, hc, hf⟩ := own_cells h.v (by omega)
  refine ⟨g, hA, hc _ _ ?_⟩
  obtain ⟨g0, g1⟩ := dots_get (vl ++ [x]) n (by simp; omega)
  rw [g0]
  have : (vl ++ [x])[n]'(by simp; omega) = x := by
    rw [List.getElem_append_right (by omega)]
    simp
  rw [this]
end

/-- All of a log's memory lies outside. -/
structure Out (lo hi : Nat) (p : Nat) (L : Lg) : Prop where
  p : ¬ (lo ≤ p ∧ p < hi)
  b : ∀ k, (Value.slice L.bA L.base.length L.bc).ownBlock = some k → ¬ (lo ≤ k ∧ k < hi)
  a : ∀ k, (Value.slice L.aA L.all.length L.ac).ownBlock = some k → ¬ (lo ≤ k ∧ k < hi)
  o : ∀ k, L.oV.ownBlock = some k → ¬ (lo ≤ k ∧ k < hi)
  l : ∀ x ∈ L.ops, (∀ k, x.dV.ownBlock = some k → ¬ (lo ≤ k ∧ k < hi)) ∧ ∀ k, x.gV.ownBlock = some k → ¬ (lo ≤ k ∧ k < hi)
section
variable {w W W0 W1 W2 W3 : World} {p q lo hi : Nat} {L M L' : Lg} {XA YA : Option Addr} {xc yc : Nat} {xs ys : List Lop}
theorem Out.of (h : LogAt W p L) (hl : W.heap.size ≤ lo) : Out lo hi p L :=
  ⟨fun e => by have := h.box.lt; omega, fun k e => by have := (h.b.lt k e).2; omega, fun k e => by have := (h.a.lt k e).2; omega, fun k e => by have := (h.o.lt k e).2; omega,
    fun x hx => ⟨fun k e => by have := ((h.own x hx).d.lt k e).2; omega, fun k e => by have := ((h.own x hx).g.lt k e).2; omega⟩⟩
theorem LogAt.outside (h : LogAt W p L) (ho : Out lo hi p L) (hk : Kept (fun b => lo ≤ b ∧ b < hi) W W1) : LogAt W1 p L :=
  ⟨h.box.kept hk ho.p, hk.own h.b ho.b, hk.own h.a ho.a, hk.own h.o ho.o, fun x hx => ⟨hk.own (h.own x hx).d (ho.l x hx).1, hk.own (h.own x hx).g (ho.l x hx).2⟩, h.small, h.bl, h.al, h.ol⟩
/-- Two logs; a row that may be written over, with its lists; another row. -/
structure OnC (w : World) (p q : Nat) (L M : Lg) (lo hi : Nat) (XA : Option Addr) (xc : Nat) (xs : List Lop) (YA : Option Addr) (yc : Nat) (ys : List Lop) (W : World) : Prop where
  t : TwoLogs w p q L M W
  x : Wi lo hi XA xs.length xc W xs W
  y : W.ownsRow hi 45 11 (.slice YA ys.length yc) ys.length (lops ys)
  yn : OpLanes W hi ys
  l : Out lo hi p L
  m : Out lo hi q M
  lo : w.heap.size ≤ lo
theorem Wi.again {n c : Nat} {A : Option Addr} (h : Wi lo hi A n c w xs W) (hk : Kept (fun _ => False) W W1) : Wi lo hi A n c W1 xs W1 := { h.fresh hk with k := Kept.refl _ _ }
theorem OnC.fresh (h : OnC w p q L M lo hi XA xc xs YA yc ys W) (hk : Kept (fun _ => False) W W1) : OnC w p q L M lo hi XA xc xs YA yc ys W1 :=
  ⟨h.t.fresh hk, h.x.again hk, hk.own h.y fun _ _ => id, h.yn.fresh hk, h.l, h.m, h.lo⟩
theorem OnC.made (ht : TwoLogs w p q L M W0) (hk0 : Kept (fun _ => False) W0 W1) (hr : W1.ownsRow W0.heap.size 45 11 (.slice XA xs.length xc) xs.length (lops xs)) (hn : OpLanes W1 W0.heap.size xs) (hs : ∀ x ∈ xs, x.o.deps.length ≤ 1000000 ∧ x.o.gone.length ≤ 1000000)
    (hk1 : Kept (fun _ => False) W1 W2) (hk2 : Kept (fun _ => False) W2 W3) (hr' : W3.ownsRow W2.heap.size 45 11 (.slice YA ys.length yc) ys.length (lops ys)) (hn' : OpLanes W3 W2.heap.size ys) : OnC w p q L M W0.heap.size W2.heap.size XA xc xs YA yc ys W3 :=
  have hk : Kept (fun _ => False) W1 W3 := hk1.trans hk2 fun _ _ e => e
  have h1 := hk1.size
  ⟨(ht.fresh hk0).fresh hk, ⟨Kept.refl _ _, rfl, hk.own hr fun _ _ => id, hn.fresh hk, hs, fun x hx k e => Nat.lt_of_lt_of_le ((hn.own x hx).d.lt k e).2 h1, fun x hx k e => Nat.lt_of_lt_of_le ((hn.own x hx).g.lt k e).2 h1, fun k e => Nat.lt_of_lt_of_le (hr.lt k e).2 h1, Nat.le_trans hk0.size hk.size⟩, hr', hn',
    Out.of ht.l.l (Nat.le_refl _), Out.of ht.m.l (Nat.le_refl _), ht.l.k.size⟩
theorem OnC.wiped (h : OnC w p q L M lo hi XA xc xs YA yc ys W) (hk : Kept (fun b => lo ≤ b ∧ b < hi) W W1) : TwoLogs w p q L M W1 ∧ RowAt W1 YA yc ys := by
  have hk0 : Kept (fun _ => False) w W1 := h.t.l.k.trans hk fun k hk e => by have := h.lo; omega
  have hy := h.y
  refine ⟨⟨⟨h.t.l.l.outside h.l hk, hk0, h.t.l.ge, h.t.l.ov⟩, ⟨h.t.m.l.outside h.m hk, hk0, h.t.m.ge, h.t.m.ov⟩, h.t.ne, h.t.ap⟩, ⟨own_base (hk.own hy fun k e1 e2 => ?_) (Nat.zero_le _), fun y hy => ?_⟩⟩
  · have := (hy.lt k e1).1; omega
  · have ho := h.yn.own y hy
    exact Lop.Own.at (base := hi) ⟨hk.own ho.d fun k e1 e2 => by have := (ho.d.lt k e1).1; omega, hk.own ho.g fun k e1 e2 => by have := (ho.g.lt k e1).1; omega⟩
theorem small_map {l : List Lop} (h : xs.map (·.o) = l.map (·.o)) (hs : ∀ x ∈ l, x.o.Small) : ∀ x ∈ xs, x.o.deps.length ≤ 1000000 ∧ x.o.gone.length ≤ 1000000 := fun x hx => by
  have : x.o ∈ l.map (·.o) := by rw [← h]; exact List.mem_map_of_mem hx
  obtain ⟨z, hz, e⟩ := List.mem_map.1 this
  rw [← e]
  exact ⟨(hs z hz).dl, (hs z hz).gl⟩
theorem own_block {A : Option Addr} {n c n' c' : Nat} {k : Nat} (h : (Value.slice A n c).ownBlock = some k) : (Value.slice A n' c').ownBlock = some k := by
  cases A with
  | none => cases h
  | some a => exact h
theorem small_cut {f : Lop → Bool} {l : List Lop} (h : xs.map (·.o) = (l.filter f).map (·.o)) (hs : ∀ x ∈ l, x.o.Small) : ∀ x ∈ xs, x.o.deps.length ≤ 1000000 ∧ x.o.gone.length ≤ 1000000 :=
  small_map h fun x hx => hs x (List.mem_filter.1 hx).1
theorem OnC.cut {cv : List Dt} {lim lim' : Nat} {M' : Lg} (ht : TwoLogs w p q L M W0)
    (hgs : xs.map (·.o) = (L.ops.filter fun x => hasV cv x.o.dot).map (·.o)) (hr : W1.ownsRow W0.heap.size 45 11 (.slice XA xs.length xc) xs.length (lops xs)) (hn : OpLanes W1 W0.heap.size xs) (hlg : LogAt W1 p L') (ho : L'.ops = L.ops.filter fun x => !hasV cv x.o.dot) (hk : Kept (fun k => k = p ∨ L.oV.ownBlock = some k) W0 W1) (hg : Goes W0 L.oV L'.oV)
    (h1 : ∀ x ∈ xs, (∀ k, x.dV.ownBlock = some k → k < lim) ∧ ∀ k, x.gV.ownBlock = some k → k < lim) (h2 : ∀ k, (Value.slice XA xs.length xc).ownBlock = some k → k < lim) (h3 : ∀ k, (Value.slice L'.bA L'.base.length L'.bc).ownBlock = some k → lim ≤ k) (h4 : L'.aA = L.aA) (h5 : lim ≤ W1.heap.size) (h6 : ∀ k, L'.oV.ownBlock = some k → L.oV.ownBlock = some k)
    (hr' : W2.ownsRow W1.heap.size 45 11 (.slice YA ys.length yc) ys.length (lops ys)) (hn' : OpLanes W2 W1.heap.size ys) (hlg' : LogAt W2 q M') (ho' : M'.ops = M.ops.filter fun x => !hasV cv x.o.dot) (hk' : Kept (fun k => k = q ∨ M.oV.ownBlock = some k) W1 W2) (hg' : Goes W1 M.oV M'.oV)
    (h3' : ∀ k, (Value.slice M'.bA M'.base.length M'.bc).ownBlock = some k → lim' ≤ k) (h4' : M'.aA = M.aA) (h5' : W1.heap.size ≤ lim') (h6' : ∀ k, M'.oV.ownBlock = some k → M.oV.ownBlock = some k) : OnC w p q L' M' W0.heap.size lim XA xc xs YA yc ys W2 := by
  have hp := ht.l.l.box.lt
  have hq := ht.m.l.box.lt
  have hT1 := ht.turnL (ht.l.turn hlg hk hg) hk hg
  have hT2 := hT1.turnR (hT1.m.turn hlg' hk' hg') hk' hg'
  have far : ∀ k, W0.heap.size ≤ k → ¬ (k = q ∨ M.oV.ownBlock = some k) := fun k h e => by
    rcases e with rfl | e
    · omega
    · have := (ht.m.l.o.lt k e).2; omega
  refine ⟨hT2, ⟨Kept.refl _ _, rfl, hk'.own hr fun k e => far k (hr.lt k e).1, ⟨fun x hx => ⟨hk'.own (hn.own x hx).d fun k e => far k ((hn.own x hx).d.lt k e).1, hk'.own (hn.own x hx).g fun k e => far k ((hn.own x hx).g.lt k e).1⟩, hn.apart⟩, small_cut hgs ht.l.l.small, fun x hx => (h1 x hx).1, fun x hx => (h1 x hx).2, h2, Nat.le_trans hk.size hk'.size⟩,
    own_base hr' h5, hn'.base h5, ⟨fun e => by omega, fun k e => by have := h3 k e; omega, fun k e => ?_, fun k e => ?_, fun x hx => ?_⟩, ⟨fun e => by omega, fun k e => by have := h3' k e; omega, fun k e => ?_, fun k e => ?_, fun x hx => ?_⟩, ht.l.k.size⟩
  · rw [h4] at e
    have := (ht.l.l.a.lt k (own_block e)).2
    omega
  · have := (ht.l.l.o.lt k (h6 k e)).2
    omega
  · rw [ho] at hx
    have hx := ht.l.l.own x (List.mem_filter.1 hx).1
    exact ⟨fun k e => by have := (hx.d.lt k e).2; omega, fun k e => by have := (hx.g.lt k e).2; omega⟩
  · rw [h4'] at e
    have := (ht.m.l.a.lt k (own_block e)).2
    omega
  · have := (ht.m.l.o.lt k (h6' k e)).2
    omega
  · rw [ho'] at hx
    have hx := ht.m.l.own x (List.mem_filter.1 hx).1
    exact ⟨fun k e => by have := (hx.d.lt k e).2; omega, fun k e => by have := (hx.g.lt k e).2; omega⟩
end
end Go.Proofs.Ytnfehkncfjgeeaa
