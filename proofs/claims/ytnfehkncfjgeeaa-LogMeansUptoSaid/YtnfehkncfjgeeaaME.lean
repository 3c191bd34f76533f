/- The walk of the law's known: what the document fixes. No condition. · The plain law of logs: what calls make of one, and how the rows go along the operations that it keeps. No program in sight. · The walk of the law's do: one call on a log. Conditions: the step lies in memory that is older than the log; nothing is longer than a million. · A script's steps: loaded whole; which may be played. No condition beyond what the structures say. · The walk of the law's follows. Conditions: the operations and the vectors lie in memory; nothing is longer than a million. · The walk of LogMeans: it returns true, whatever the base, the script and the vector. Conditions: they lie in memory. -/
import Derived.Test.YtnfehkncfjgeeaaJD
import Derived.Test.YtnfehkncfjgeeaaJB
import Derived.Test.YtnfehkncfjgeeaaJC
import Derived.Test.YtnfehkncfjgeeaaVCan
import Derived.Test.YtnfehkncfjgeeaaOCheck
import Derived.Test.YtnfehkncfjgeeaaVRLat
import Derived.Test.YtnfehkncfjgeeaaVRCov
import Derived.Test.YtnfehkncfjgeeaaVRCheck
import Derived.Test.YtnfehkncfjgeeaaVSum
namespace Go.Proofs.Ytnfehkncfjgeeaa
open Go Go.RowKit

theorem dots_new1 (w : World) (a b : Int) (T : TypeId) : DotsAt (w.alloc (.cells #[.int .i64 a, .int .i64 b] T)) (some ⟨w.heap.size, 0, none⟩) [⟨a, b⟩] := fun k hk => by
  obtain rfl : k = 0 := by simp at hk; omega
  exact ⟨_, rfl, (Box.new w T #[.int .i64 a, .int .i64 b]).cell 0, (Box.new w T #[.int .i64 a, .int .i64 b]).cell 1⟩
/-- A log that was made since w, in memory that is not older. -/
structure LogOf (w : World) (p : Nat) (L : Lg) (W : World) : Prop where
  l : LogAt W p L
  k : Kept (fun _ => False) w W
  ge : w.heap.size ≤ p
  ov : ∀ k, L.oV.ownBlock = some k → w.heap.size ≤ k
section
variable {w W W' : World} {p : Nat} {L L' : Lg}
theorem LogOf.fresh (h : LogOf w p L W) (hk : Kept (fun _ => False) W W') : LogOf w p L W' := ⟨h.l.fresh hk, h.k.trans hk fun _ _ e => e, h.ge, h.ov⟩
theorem LogOf.turn (h : LogOf w p L W) (hl : LogAt W' p L') (hk : Kept (fun k => k = p ∨ L.oV.ownBlock = some k) W W') (hg : Goes W L.oV L'.oV) : LogOf w p L' W' := by
  refine ⟨hl, h.k.trans hk fun k hk e => ?_, h.ge, fun k e => ?_⟩
  · rcases e with rfl | e
    · have := h.ge; omega
    · have := h.ov k e; omega
  · rcases hg k e with e | e
    · exact h.ov k e
    · exact Nat.le_trans h.k.size e
theorem LogOf.made (hl : LogAt W p L) (hk : Kept (fun _ => False) w W) (hg : w.heap.size ≤ p) (hA : L.oA = none) : LogOf w p L W := ⟨hl, hk, hg, fun k e => by unfold Lg.oV at e; rw [hA] at e; cases e⟩
end
def opA : Opr := ⟨⟨1, 6⟩, [⟨1, 5⟩], 4, ⟨0, 0⟩, ⟨0, 0⟩, ⟨#[]⟩, [], 0⟩
def opB : Opr := ⟨⟨1, 8⟩, [⟨1, 7⟩], 4, ⟨0, 0⟩, ⟨0, 0⟩, ⟨#[]⟩, [], 0⟩
def opC : Opr := ⟨⟨0, 0⟩, [], 0, ⟨0, 0⟩, ⟨0, 0⟩, ⟨#[]⟩, [], 0⟩
theorem opA_ok : okOp opA = true := by kernel_rfl
theorem opB_ok : okOp opB = true := by kernel_rfl
theorem opC_ok : okOp opC = false := by kernel_rfl
theorem kn1 : checkV [⟨1, 5⟩] = 0 := by kernel_rfl
theorem kn2 : addE [⟨1, 5⟩] ⟨1, 6⟩ = 0 ∧ coversR (says [⟨1, 5⟩]) (says [⟨1, 5⟩]) = true ∧ addV [⟨1, 5⟩] ⟨1, 6⟩ = [⟨1, 6⟩] := ⟨by kernel_rfl, by kernel_rfl, by kernel_rfl⟩
theorem kn3 : addE [⟨1, 6⟩] ⟨1, 8⟩ = 9 := by kernel_rfl
theorem kn4 : hasV [⟨1, 5⟩] ⟨1, 6⟩ = false ∧ hasV [⟨1, 6⟩] ⟨1, 6⟩ = true := ⟨by kernel_rfl, by kernel_rfl⟩
theorem kn5 : checkV [⟨1, 6⟩] = 0 ∧ coversR (says [⟨1, 6⟩]) (says [⟨1, 6⟩]) = true ∧ vec (maxR (says [⟨1, 5⟩]) (says [⟨1, 6⟩])) = [⟨1, 6⟩] := ⟨by kernel_rfl, by kernel_rfl, by kernel_rfl⟩
theorem small_of {o : Opr} (h1 : o.gone = []) (h2 : o.deps.length ≤ 1) (h3 : o.text = ⟨#[]⟩) : o.Small := ⟨fun r hr => absurd (h1 ▸ hr) (by simp), by omega, by rw [h1]; simp, by rw [h3]; decide⟩
theorem opA_small : opA.Small := small_of rfl (by decide) rfl
theorem opB_small : opB.Small := small_of rfl (by decide) rfl
theorem opC_small : opC.Small := small_of rfl (by decide) rfl

set_option maxRecDepth 100000 in
set_option maxHeartbeats 3200000 in
theorem known_any (w : World) : Calls Try.prog 11 #[] w (BoolPost w true) := by
  have hd1 := Lib.hid (dots_new1 w 1 5 28)
  go_enter Try.func11, Try.ntmps11
  go_wp2_with (fail)
  have HK0 := Lib.hid ((Kept.refl (fun _ => False) w).alloc (.cells #[.int .i64 1, .int .i64 5] 28))
  refine (New_any _ [⟨1, 5⟩] 1 _ hd1.out (by decide)).mono ?_
  rintro e w1 (⟨-, p, L0, rfl, hl, hb, ha, ho, hoA, hge, hk⟩ | ⟨h, -⟩)
  rotate_left
  · exact absurd kn1 h
  have HL0 := Lib.hid (LogOf.made hl (HK0.out.trans hk fun _ _ e => e) (Nat.le_trans HK0.out.size hge) hoA)
  have HB0 := Lib.hid hb
  have HA0 := Lib.hid ha
  have HO0 := Lib.hid ho
  clear hl hb ha ho hoA hge hk HK0 hd1
  go_wp2_with (fail)
  have HX1 := Lib.hid (dots_new1 w1 1 5 28)
  have HL1 := Lib.hid (HL0.out.fresh ((Kept.refl _ _).alloc (.cells #[.int .i64 1, .int .i64 5] 28)))
  have hE1 : addErr L0 opA = 0 := by
    unfold addErr
    rw [opA_ok, HA0.out, if_neg (by decide), if_neg]
    intro h
    rcases h with h | h
    · exact h kn2.1
    · exact absurd (h.symm.trans kn2.2.1) (by decide)
  generalize w1.alloc (.cells #[.int .i64 1, .int .i64 5] 28) = w2 at HX1 HL1 ⊢
  clear HL0
  have hadd := LogAdd_any p L0 ⟨opA, some ⟨w1.heap.size, 0, none⟩, 1, none, 0⟩ w2 HL1.out.l ⟨HX1.out, RunsAt.nil⟩ opA_small (by rw [HO0.out]; decide)
  simp only [hE1, if_true] at hadd
  refine hadd.mono ?_
  rintro e w3 ⟨L1, y, rfl, hb1, ha1, ho1, hyo, hl1, hk1, hg1⟩
  have HL3 := Lib.hid (HL1.out.turn hl1 hk1 hg1)
  have HA1 := Lib.hid (show L1.all = [⟨1, 6⟩] by rw [ha1, HA0.out]; exact kn2.2.2)
  have HB1 := Lib.hid (show L1.base = [⟨1, 5⟩] by rw [hb1, HB0.out])
  have HO1 := Lib.hid (show L1.ops = [y] by rw [ho1, HO0.out]; rfl)
  have HY := Lib.hid (show y.o = opA from hyo)
  clear hb1 ha1 ho1 hyo hl1 hk1 hg1 hadd HX1 HL1 hE1 HA0 HB0 HO0
  go_wp2_with (fail)
  have HX1 := Lib.hid (dots_new1 w3 1 7 28)
  have HL4 := Lib.hid (HL3.out.fresh ((Kept.refl _ _).alloc (.cells #[.int .i64 1, .int .i64 7] 28)))
  have hE2 : addErr L1 opB = 9 := by
    unfold addErr
    rw [opB_ok, HA1.out, if_neg (by decide), if_pos (.inl (by rw [show opB.dot = ⟨1, 8⟩ from rfl, kn3]; decide))]
  generalize w3.alloc (.cells #[.int .i64 1, .int .i64 7] 28) = w4 at HX1 HL4 ⊢
  clear HL3
  have hadd := LogAdd_any p L1 ⟨opB, some ⟨w3.heap.size, 0, none⟩, 1, none, 0⟩ w4 HL4.out.l ⟨HX1.out, RunsAt.nil⟩ opB_small (by rw [HO1.out]; simp)
  refine hadd.mono fun e w5 h => ?_
  rw [hE2, if_neg (by decide)] at h
  unfold IntPost at h
  obtain ⟨rfl, hk5⟩ := h
  have HL5 := Lib.hid (HL4.out.fresh hk5)
  clear hadd HX1 HL4 hE2 hk5
  go_wp2_with (fail)
  have hE3 : addErr L1 opC = 10 := by
    unfold addErr
    rw [opC_ok, if_pos rfl]
  have hadd := LogAdd_any p L1 ⟨opC, none, 0, none, 0⟩ w5 HL5.out.l ⟨DotsAt.nil, RunsAt.nil⟩ opC_small (by rw [HO1.out]; simp)
  refine hadd.mono fun e w6 h => ?_
  rw [hE3, if_neg (by decide)] at h
  unfold IntPost at h
  obtain ⟨rfl, hk6⟩ := h
  have HL6 := Lib.hid (HL5.out.fresh hk6)
  clear hadd HL5 hE3 hk6
  go_wp2_with (fail)
  have HX1 := Lib.hid (dots_new1 w6 1 5 28)
  have HL7 := Lib.hid (HL6.out.fresh ((Kept.refl _ _).alloc (.cells #[.int .i64 1, .int .i64 5] 28)))
  generalize w6.alloc (.cells #[.int .i64 1, .int .i64 5] 28) = w7 at HX1 HL7 ⊢
  clear HL6
  have hlk : lacks [⟨1, 5⟩] L1.ops = [y] := by
    unfold lacks
    rw [if_pos kn1, HO1.out, List.filter_cons_of_pos]
    · rfl
    · rw [HY.out]; simp [opA, kn4.1]
  have hla := Lacks_of (.pointer (some ⟨p, 0, none⟩)) (some ⟨w6.heap.size, 0, none⟩) [⟨1, 5⟩] 1 w7 (lacks [⟨1, 5⟩] L1.ops) fun W hk => Beyond_any p L1 _ [⟨1, 5⟩] 1 W (HL7.out.l.fresh hk) (HX1.out.fresh hk) (by decide)
  rw [hlk] at hla
  refine hla.mono ?_
  unfold IntPost
  rintro e w8 ⟨rfl, hk8⟩
  have HL8 := Lib.hid (HL7.out.fresh hk8)
  clear hla hlk HX1 HL7 hk8
  go_wp2_with (fail)
  have HX1 := Lib.hid (dots_new1 w8 1 6 28)
  have HL9 := Lib.hid (HL8.out.fresh ((Kept.refl _ _).alloc (.cells #[.int .i64 1, .int .i64 6] 28)))
  have HOV := Lib.hid (fun k (hk : L1.oV.ownBlock = some k) => (HL8.out.l.o.lt k hk).2)
  generalize w8.alloc (.cells #[.int .i64 1, .int .i64 6] 28) = w9 at HX1 HL9 ⊢
  clear HL8
  have hcu := Cut_yes p L1 (some ⟨w8.heap.size, 0, none⟩) [⟨1, 6⟩] 1 w9 HL9.out.l HX1.out (by decide) (fun _ a ha e => by injection ha with ha; subst ha; exact Nat.lt_irrefl _ (HOV.out _ e))
    (by unfold cutErr; rw [HA1.out, if_neg (by rw [kn5.1]; simp), if_neg (by rw [kn5.2.1]; simp)])
  refine hcu.mono ?_
  rintro e w10 ⟨L2, gs, A, c, rfl, hgo, hgr, hlan, hl2, hb2, ha2, ho2, hk2, hg2⟩
  have HL10 := Lib.hid (HL9.out.turn hl2 hk2 hg2)
  have HB2 := Lib.hid (show L2.base = [⟨1, 6⟩] by rw [hb2, HB1.out]; exact kn5.2.2)
  have HO2 := Lib.hid (show L2.ops = [] by
    rw [ho2, HO1.out, List.filter_cons_of_neg]
    · rfl
    · rw [HY.out]; simp [opA, kn4.2])
  have hgl : gs.length = 1 := by
    have := congrArg List.length hgo
    simp only [List.length_map] at this
    rw [this, HO1.out, List.filter_cons_of_pos]
    · rfl
    · rw [HY.out]; exact kn4.2
  rw [hgl]
  clear hgo hgr hlan hl2 hb2 ha2 ho2 hk2 hg2 hcu HX1 HL9 HOV HA1 HB1 HO1 HY hgl
  go_wp2_with (fail)
  refine (Len_any p L2 w10 HL10.out.l).mono ?_
  unfold IntPost
  rw [HO2.out]
  rintro e w11 ⟨rfl, hk11⟩
  have HL11 := Lib.hid (HL10.out.fresh hk11)
  clear hk11 HL10
  go_wp2_with (fail)
  refine (Base_any p L2 w11 HL11.out.l).mono ?_
  rw [HB2.out]
  rintro e w12 hf
  obtain ⟨A12, c12, rfl, hd12, hk12⟩ := hf.at
  have HL12 := Lib.hid (HL11.out.fresh hk12)
  have HD12 := Lib.hid hd12
  clear hf hd12 hk12 HL11
  go_wp2_with (fail)
  have HK13 := Lib.hid ((Kept.refl (fun _ => False) w12).alloc (.cells #[.int .i64 1, .int .i64 6] 28))
  refine (vectors_any A12 (some ⟨w12.heap.size, 0, none⟩) [⟨1, 6⟩] [⟨1, 6⟩] c12 1 _ (HD12.out.fresh HK13.out) (dots_new1 w12 1 6 28) (by decide)).mono ?_
  unfold SamePost
  rw [decide_eq_true rfl]
  rintro e w14 ⟨rfl, hk14⟩
  have HK := Lib.hid ((HL12.out.fresh HK13.out).fresh hk14).k
  go_wp2
  go_ret
  exact ⟨rfl, HK.out⟩
end Go.Proofs.Ytnfehkncfjgeeaa

namespace Go.Proofs.Ytnfehkncfjgeeaa
open Go

structure Pl where
  base : List Dt
  all : List Dt
  ops : List Opr
def Pl.addErr (P : Pl) (o : Opr) : Int := if okOp o = false then 10 else if addE P.all o.dot ≠ 0 ∨ coversR (says P.all) (says o.deps) = false then 9 else 0
def Pl.add (P : Pl) (o : Opr) : Pl := if P.addErr o = 0 then ⟨P.base, addV P.all o.dot, P.ops ++ [o]⟩ else P
def Pl.cutErr (P : Pl) (hv : List Dt) : Int := if checkV hv ≠ 0 then checkV hv else if coversR (says P.all) (says hv) = false then 9 else 0
def Pl.cut (P : Pl) (hv : List Dt) : Pl := if P.cutErr hv = 0 then ⟨vec (maxR (says P.base) (says hv)), P.all, P.ops.filter fun o => !hasV hv o.dot⟩ else P
def Pl.step (P : Pl) (kind : Int) (o : Opr) (v : List Dt) : Pl := if kind = 1 then P.add o else if kind = 3 then P.cut v else P
def Pl.lacks (P : Pl) (hv : List Dt) : List Opr := if checkV hv = 0 then P.ops.filter fun o => !hasV hv o.dot else []

/-- The operation comes next behind row r. -/
structure Nx (r : List Int) (o : Opr) : Prop where
  s1 : 1 ≤ o.dot.site
  s2 : o.dot.site ≤ 16
  q1 : 1 ≤ o.dot.seq
  q2 : o.dot.seq ≤ 2147483647
  next : o.dot.seq = rg r o.dot.site.toNat + 1
  cov : coversR r (says o.deps) = true
def put1 (r : List Int) (o : Opr) : List Int := r.set o.dot.site.toNat o.dot.seq
def Path (r : List Int) : List Opr → List Int → Prop
  | [], t => r = t
  | o :: os, t => Nx r o ∧ Path (put1 r o) os t
section
variable {r t u : List Int} {o : Opr} {os : List Opr}
theorem Nx.row (h : Nx r o) (hr : Row r) : Row (put1 r o) := hr.set _ (by have := h.s1; omega) (by have := h.s2; omega) _ (by have := h.q1; omega) h.q2
theorem put1_rg (h : Nx r o) (hr : Row r) (i : Nat) : rg (put1 r o) i = if i = o.dot.site.toNat then o.dot.seq else rg r i := rg_set _ _ _ _ (by rw [hr.len]; have := h.s2; omega)
theorem Path.row : ∀ {os : List Opr} {r t : List Int}, Row r → Path r os t → Row t
  | [], r, t, hr, h => by cases h; exact hr
  | o :: os, r, t, hr, h => Path.row (h.1.row hr) h.2
theorem Nx.up (h : Nx r o) (hr : Row r) : coversR (put1 r o) r = true := (covers_iff _ _).2 fun i _ => by
  rw [put1_rg h hr]
  split
  · rename_i e; subst e; have := h.next; omega
  · omega
theorem Path.cov : ∀ {os : List Opr} {r t : List Int}, Row r → Path r os t → coversR t r = true
  | [], r, t, _, h => by cases h; exact cov_refl
  | o :: os, r, t, hr, h => cov_trans (Path.cov (h.1.row hr) h.2) (h.1.up hr)
theorem sumR_set (r : List Int) (j : Nat) (x : Int) (hj : j < r.length) : ∀ k, sumR (r.set j x) k = sumR r k + if j < k then x - rg r j else 0
  | 0 => by simp [sumR]
  | k + 1 => by
    simp only [sumR, sumR_set r j x hj k, rg_set _ _ _ _ hj]
    by_cases h : k = j
    · subst h
      rw [if_neg (by omega), if_pos rfl, if_pos (by omega)]
      omega
    · rw [if_neg h]
      by_cases h2 : j < k
      · rw [if_pos h2, if_pos (by omega)]; omega
      · rw [if_neg h2, if_neg (by omega)]; omega
theorem Path.sum : ∀ {os : List Opr} {r t : List Int}, Row r → Path r os t → sumR t 17 = sumR r 17 + os.length
  | [], r, t, _, h => by cases h; simp
  | o :: os, r, t, hr, h => by
    rw [Path.sum (h.1.row hr) h.2, put1, sumR_set _ _ _ (by rw [hr.len]; have := h.1.s2; omega), if_pos (by have := h.1.s2; omega), List.length_cons]
    have := h.1.next
    omega
theorem Path.snoc : ∀ {os : List Opr} {r t : List Int}, Path r os t → Nx t o → Path r (os ++ [o]) (put1 t o)
  | [], r, t, h, hn => by cases h; exact ⟨hn, rfl⟩
  | _ :: os, r, t, h, hn => ⟨h.1, Path.snoc h.2 hn⟩
def hasR (u : List Int) (d : Dt) : Bool := decide (1 ≤ d.seq ∧ d.seq ≤ if siteB d.site then rg u d.site.toNat else 0)
theorem hasV_eq (l : List Dt) (d : Dt) : hasV l d = hasR (says l) d := rfl
theorem Nx.has (h : Nx r o) (u : List Int) : hasR u o.dot = decide (o.dot.seq ≤ rg u o.dot.site.toNat) := by
  have hs : siteB o.dot.site = true := by simp [siteB]; exact ⟨h.s1, h.s2⟩
  have := h.q1
  simp [hasR, hs, this]
theorem Path.max (hu : Row u) : ∀ {os : List Opr} {r t : List Int}, Row r → Path r os t → Path (maxR r u) (os.filter fun o => !hasR u o.dot) (maxR t u)
  | [], r, t, _, h => by cases h; rfl
  | o :: os, r, t, hr, h => by
    have ih := Path.max hu (h.1.row hr) h.2
    have hs1 := h.1.s1
    have hs2 := h.1.s2
    have hn := h.1.next
    rw [List.filter_cons, h.1.has u]
    by_cases hq : o.dot.seq ≤ rg u o.dot.site.toNat
    · rw [if_neg (by simp [hq])]
      have e : maxR (put1 r o) u = maxR r u := row_ext (zipR_len ..) (zipR_len ..) fun i hi => by
        rw [rg_max _ _ hi, rg_max _ _ hi, put1_rg h.1 hr]
        split
        · rename_i e; subst e; omega
        · rfl
      rw [← e]
      exact ih
    · rw [if_pos (by simp [hq])]
      have e : maxR (put1 r o) u = put1 (maxR r u) o := row_ext (zipR_len ..) (by unfold put1; rw [List.length_set]; exact zipR_len ..) fun i hi => by
        unfold put1
        rw [rg_max _ _ hi, rg_set _ _ _ _ (by rw [hr.len]; omega), rg_set _ _ _ _ (by unfold maxR; rw [zipR_len]; omega), rg_max _ _ hi]
        split
        · rename_i e; subst e; omega
        · rfl
      refine ⟨⟨hs1, hs2, h.1.q1, h.1.q2, ?_, cov_trans cov_max_l h.1.cov⟩, by rw [← e]; exact ih⟩
      rw [rg_max _ _ (by omega)]
      omega
theorem Path.none : ∀ {os : List Opr} {r t : List Int}, Row r → Path r os t → ∀ o ∈ os, hasR r o.dot = false
  | [], _, _, _, _, o, ho => absurd ho (by simp)
  | o :: os, r, t, hr, h, x, hx => by
    rcases List.mem_cons.1 hx with rfl | hx
    · rw [h.1.has r]
      have := h.1.next
      simp
      omega
    · have := Path.none (h.1.row hr) h.2 x hx
      have hc := (covers_iff _ _).1 (h.1.up hr)
      unfold hasR at this ⊢
      simp only [decide_eq_false_iff_not, not_and, Int.not_le] at this ⊢
      intro h1
      refine Int.lt_of_le_of_lt ?_ (this h1)
      split
      · rename_i hs
        simp [siteB] at hs
        exact hc _ (by omega)
      · omega
theorem Path.has : ∀ {os : List Opr} {r t : List Int}, Row r → Path r os t → ∀ o ∈ os, hasR t o.dot = true
  | [], _, _, _, _, o, ho => absurd ho (by simp)
  | o :: os, r, t, hr, h, x, hx => by
    rcases List.mem_cons.1 hx with rfl | hx
    · rw [h.1.has t]
      have hc := (covers_iff _ _).1 (Path.cov (h.1.row hr) h.2) x.dot.site.toNat (by have := h.1.s2; omega)
      rw [put1_rg h.1 hr, if_pos rfl] at hc
      exact decide_eq_true hc
    · exact Path.has (h.1.row hr) h.2 x hx
end
/-- Does each come behind all that it depends on? -/
def followsB : List Opr → List Dt → List Dt → Bool
  | [], f, t => decide (f = t)
  | o :: os, f, t => if coversR (says f) (says o.deps) = false ∨ hasV f o.dot = true then false else followsB os (vec (maxR (says f) (says [o.dot]))) t
theorem Nx.merge {r : List Int} {o : Opr} (h : Nx r o) (hr : Row r) : maxR r (says [o.dot]) = put1 r o := by
  have hs1 := h.s1
  have hs2 := h.s2
  have hok : okDot o.dot = true := by simp [okDot]; exact ⟨h.s1, h.s2, h.q1, h.q2⟩
  refine row_ext (zipR_len ..) (by unfold put1; rw [List.length_set]; exact hr.len) fun i hi => ?_
  rw [rg_max _ _ hi, put1_rg h hr]
  have e : says [o.dot] = lay row0 o.dot := rfl
  rw [e, rg_lay rfl, rg_row0]
  have hb := hr.bd i
  by_cases hi2 : i = o.dot.site.toNat
  · subst hi2
    rw [if_pos ⟨hok, by omega⟩, if_pos rfl]
    have := h.next
    have := h.q1
    omega
  · rw [if_neg hi2, if_neg (by rintro ⟨_, e⟩; omega)]
    omega
theorem Path.follows : ∀ {os : List Opr} {r t : List Int}, Row r → Path r os t → followsB os (vec r) (vec t) = true
  | [], r, t, _, h => by cases h; simp [followsB]
  | o :: os, r, t, hr, h => by
    have hh := Path.none hr h o (by simp)
    rw [followsB, says_vec hr, hasV_eq, says_vec hr, if_neg (by rw [h.1.cov, hh]; simp), h.1.merge hr]
    exact Path.follows (h.1.row hr) h.2
theorem max_of_cov {r s : List Int} (hr : r.length = 17) (h : coversR r s = true) : maxR r s = r := of_decide_eq_true (by rw [← covers_max hr]; exact h)
/-- A log that was made by New and calls. -/
structure Pl.Good (P : Pl) : Prop where
  bc : checkV P.base = 0
  ac : checkV P.all = 0
  path : Path (says P.base) P.ops (says P.all)
section
variable {P : Pl} {o : Opr} {hv : List Dt}
theorem Pl.Good.new (h : checkV hv = 0) : Pl.Good ⟨hv, hv, []⟩ := ⟨h, h, rfl⟩
theorem okOp_dot (h : okOp o = true) : 1 ≤ o.dot.site ∧ o.dot.site ≤ 16 ∧ 1 ≤ o.dot.seq ∧ o.dot.seq ≤ 2147483647 := by
  unfold okOp at h
  simp only [Bool.and_eq_true, decide_eq_true_eq] at h
  exact h.1.1.1
theorem Pl.Good.add (h : P.Good) (o : Opr) : (P.add o).Good := by
  unfold Pl.add
  split
  · rename_i he
    unfold Pl.addErr at he
    by_cases h1 : okOp o = false
    · rw [if_pos h1] at he; simp at he
    · rw [if_neg h1] at he
      by_cases h2 : addE P.all o.dot ≠ 0 ∨ coversR (says P.all) (says o.deps) = false
      · rw [if_pos h2] at he; simp at he
      · have h3 : addE P.all o.dot = 0 := by
          rcases Classical.em (addE P.all o.dot = 0) with e | e
          · exact e
          · exact absurd (.inl e) h2
        have h4 : coversR (says P.all) (says o.deps) = true := by
          cases hc : coversR (says P.all) (says o.deps) with
          | true => rfl
          | false => exact absurd (.inr hc) h2
        obtain ⟨d1, d2, d3, d4⟩ := okOp_dot (show okOp o = true by simpa using h1)
        have hs : siteB o.dot.site = true := by simp [siteB]; exact ⟨d1, d2⟩
        have hq : o.dot.seq = rg (says P.all) o.dot.site.toNat + 1 := by
          unfold addE at h3
          rw [if_neg (by simp [hs]; omega), if_neg (by omega)] at h3
          unfold getV at h3
          rw [if_pos hs] at h3
          by_cases e : o.dot.seq ≠ rg (says P.all) o.dot.site.toNat + 1
          · rw [if_pos e] at h3; simp at h3
          · omega
        have hn : Nx (says P.all) o := ⟨d1, d2, d3, d4, hq, h4⟩
        have hrow := hn.row (Row.says P.all)
        have e : addV P.all o.dot = vec (put1 (says P.all) o) := if_pos h3
        refine ⟨h.bc, ?_, ?_⟩
        · rw [e]; exact check_vec hrow
        · simp only [e, says_vec hrow]
          exact h.path.snoc hn
  · exact h
theorem Pl.Good.cut (h : P.Good) (hv : List Dt) : (P.cut hv).Good := by
  unfold Pl.cut
  split
  · rename_i he
    unfold Pl.cutErr at he
    by_cases h1 : checkV hv ≠ 0
    · rw [if_pos h1] at he; exact absurd he h1
    · rw [if_neg h1] at he
      have h2 : coversR (says P.all) (says hv) = true := by
        cases hc : coversR (says P.all) (says hv) with
        | true => rfl
        | false => rw [hc] at he; simp at he
      have hrow := (Row.says P.base).maxR (Row.says hv)
      refine ⟨check_vec hrow, h.ac, ?_⟩
      simp only [says_vec hrow]
      have := Path.max (Row.says hv) (Row.says P.base) h.path
      rw [max_of_cov (Row.says P.all).len h2] at this
      exact this
  · exact h
theorem Pl.Good.step (h : P.Good) (kind : Int) (o : Opr) (v : List Dt) : (P.step kind o v).Good := by
  unfold Pl.step
  split
  · exact h.add o
  · split
    · exact h.cut v
    · exact h
theorem Pl.add_len (P : Pl) (o : Opr) : (P.add o).ops.length ≤ P.ops.length + 1 := by
  unfold Pl.add
  split
  · simp
  · simp
theorem Pl.step_len (P : Pl) (kind : Int) (o : Opr) (v : List Dt) : (P.step kind o v).ops.length ≤ P.ops.length + 1 := by
  unfold Pl.step
  split
  · exact P.add_len o
  · split
    · unfold Pl.cut
      split
      · exact Nat.le_succ_of_le (List.length_filter_le _ _)
      · omega
    · omega
/-- What the law looks at behind each call. -/
theorem Pl.Good.looks (h : P.Good) : coversR (says P.all) (says P.base) = true ∧ sumR (says P.all) 17 = sumR (says P.base) 17 + P.ops.length ∧ P.lacks P.base = P.ops ∧ P.lacks P.all = [] ∧ followsB P.ops P.base P.all = true := by
  have hr := Row.says P.base
  refine ⟨h.path.cov hr, h.path.sum hr, ?_, ?_, ?_⟩
  · unfold Pl.lacks
    rw [if_pos h.bc, List.filter_eq_self]
    intro o ho
    rw [hasV_eq, h.path.none hr o ho]
    rfl
  · unfold Pl.lacks
    rw [if_pos h.ac, List.filter_eq_nil_iff]
    intro o ho
    rw [hasV_eq, h.path.has hr o ho]
    simp
  · have := h.path.follows hr
    rwa [vec_says h.bc, vec_says h.ac] at this
/-- And of what is beyond any vector. -/
theorem Pl.Good.beyond (h : P.Good) (hc : checkV hv = 0) : followsB (P.lacks hv) (vec (maxR (says hv) (says P.base))) (vec (maxR (says (vec (maxR (says hv) (says P.base)))) (says P.all))) = true := by
  have hr := Row.says P.base
  have hu := Row.says hv
  have hm := hu.maxR hr
  have hp := Path.max hu hr h.path
  have e : maxR (says (vec (maxR (says hv) (says P.base)))) (says P.all) = maxR (says P.all) (says hv) := by
    rw [says_vec hm, max_assoc', max_comm' (a := says P.base), max_of_cov (Row.says P.all).len (h.path.cov hr), max_comm']
  unfold Pl.lacks
  rw [if_pos hc, e, max_comm' (a := says hv)]
  exact hp.follows (hr.maxR hu)
end
end Go.Proofs.Ytnfehkncfjgeeaa

namespace Go.Proofs.Ytnfehkncfjgeeaa
open Go Go.RowKit

def Lg.d (L : Lg) : Pl := ⟨L.base, L.all, L.ops.map (·.o)⟩
def Stp.c (s : Stp) : Array Value := #[.int .i64 s.kind, .int .i64 s.x.o.dot.site, .int .i64 s.x.o.dot.seq, .slice s.x.dA s.x.o.deps.length s.x.dc, .int .i64 s.x.o.kind, .int .i64 s.x.o.id.time, .int .i64 s.x.o.id.site, .int .i64 s.x.o.ref.time, .int .i64 s.x.o.ref.site, .string s.x.o.text, .slice s.x.gA s.x.o.gone.length s.x.gc, .int .i64 s.x.o.site, .slice s.vA s.v.length s.vc]
theorem step_range {w : World} {g : Nat} {t : TypeId} {s : Stp} (h : Box w g t s.c) : w.rangeAt g 1 s.x.c.toList := fun j v hj => by
  have hj' : j < 11 := by
    have := (List.getElem?_eq_some_iff.1 hj).1
    rwa [Array.length_toList, Lop.c_size] at this
  rw [← hj]
  match j, hj' with
  | 0, _ => exact h.cell 1
  | 1, _ => exact h.cell 2
  | 2, _ => exact h.cell 3
  | 3, _ => exact h.cell 4
  | 4, _ => exact h.cell 5
  | 5, _ => exact h.cell 6
  | 6, _ => exact h.cell 7
  | 7, _ => exact h.cell 8
  | 8, _ => exact h.cell 9
  | 9, _ => exact h.cell 10
  | 10, _ => exact h.cell 11
/-- A step that may be played. -/
structure StepOk (w : World) (s : Stp) : Prop where
  x : s.x.At w
  v : DotsAt w s.vA s.v
  small : s.x.o.Small
  vl : s.v.length ≤ 1000000
theorem dots_lt {w : World} {A : Option Addr} {l : List Dt} (h : DotsAt w A l) (hne : 0 < l.length) : ∀ a, A = some a → a.block < w.heap.size := by
  rintro a rfl
  obtain ⟨ad, e, x0, _⟩ := h 0 hne
  injection e with e
  subst e
  have := World.block_lt_of_cell? w _ x0
  rwa [add_block] at this
theorem StepOk.fresh {w w' : World} {s : Stp} (h : StepOk w s) (hk : Kept (fun _ => False) w w') : StepOk w' s := ⟨h.x.fresh hk, h.v.fresh hk, h.small, h.vl⟩
def DoPost (w : World) (p : Nat) (L : Lg) (P : Pl) (W : World) (e : Ending) (W' : World) : Prop :=
  (∃ v, e = .returned v) ∧ ∃ L' : Lg, L'.d = P ∧ LogOf w p L' W' ∧ Kept (fun k => k = p ∨ L.oV.ownBlock = some k) W W' ∧ Goes W L.oV L'.oV
theorem lops_filter (l : List Lop) (f : Opr → Bool) : (l.filter fun x => f x.o).map (·.o) = (l.map (·.o)).filter f := by
  induction l with
  | nil => rfl
  | cons x l ih =>
    simp only [List.filter_cons, List.map_cons]
    split
    · rw [List.map_cons, ih]
    · exact ih

set_option maxRecDepth 100000 in
set_option maxHeartbeats 3200000 in
theorem do_any (w W : World) (p : Nat) (L : Lg) (s : Stp) (h : LogOf w p L W) (hs : StepOk w s) (hl : L.ops.length < 1000000) :
    Calls Try.prog 31 #[.pointer (some ⟨p, 0, none⟩), .agg s.c] W (DoPost w p L (L.d.step s.kind s.x.o s.v) W) := by
  have hk0 : Kept (fun _ => False) W (W.alloc (.cells s.c 47)) := (Kept.refl _ _).alloc _
  have HK0 := Lib.hid hk0
  have HL := Lib.hid (h.fresh hk0)
  have HGO := Lib.hid (fun (W' : World) (L' : Lg) (hg : Goes (W.alloc (.cells s.c 47)) L.oV L'.oV) => show Goes W L.oV L'.oV from fun k hk => (hg k hk).imp_right fun e => Nat.le_trans hk0.size e)
  have HS := Lib.hid (hs.fresh (h.k.trans hk0 fun _ _ e => e))
  have HB := Lib.hid (Box.new W 47 s.c)
  have HRG := Lib.hid (step_range (Box.new W 47 s.c))
  have HVB := Lib.hid (show 0 < s.v.length → ∀ a, s.vA = some a → L.oV.ownBlock ≠ some a.block from fun h0 a ha e => by have := dots_lt hs.v h0 a ha; have := h.ov _ e; omega)
  have c0 := HB.out.cell 0
  have c12 := HB.out.cell 12
  simp only [Stp.c, List.getElem?_toArray, List.getElem?_cons_succ, List.getElem?_cons_zero] at c0 c12
  obtain ⟨kind, x, vA, vc, v⟩ := s
  simp only at HL HS HRG HVB c0 c12 ⊢
  obtain ⟨cs, hcs⟩ : ∃ cs, x.c = cs := ⟨_, rfl⟩
  have HCS := Lib.hid hcs
  have HSZ := Lib.hid (show cs.size = 11 by rw [← hcs]; rfl)
  rw [hcs] at HRG
  clear hk0 h hs hcs HB
  unfold Stp.c at *
  simp only at *
  go_enter Try.func31, Try.ntmps31
  unfold Pl.step
  by_cases h1 : kind = 1
  · subst h1
    rw [if_pos rfl]
    go_wp2_with (refine load_step rfl _ rfl W.heap.size 1 rfl cs HSZ.out HRG.out ?_)
    have hadd := LogAdd_any p L x _ HL.out.l HS.out.x HS.out.small hl
    rw [HCS.out] at hadd
    refine hadd.mono fun e W' he => ?_
    have he' : ∃ n, e = .returned (.int .i64 n) := by
      by_cases hz : addErr L x.o = 0
      · rw [if_pos hz] at he
        obtain ⟨L', y, rfl, _⟩ := he
        exact ⟨_, rfl⟩
      · rw [if_neg hz] at he
        exact ⟨_, he.1⟩
    have hD : ∃ L' : Lg, L'.d = L.d.add x.o ∧ LogOf w p L' W' ∧ Kept (fun k => k = p ∨ L.oV.ownBlock = some k) W W' ∧ Goes W L.oV L'.oV := by
      unfold Pl.add
      have hee : L.d.addErr x.o = addErr L x.o := rfl
      rw [hee]
      by_cases hz : addErr L x.o = 0
      · rw [if_pos hz] at he ⊢
        obtain ⟨L', y, _, hb, ha, ho, hyo, hl', hk, hg⟩ := he
        refine ⟨L', ?_, HL.out.turn hl' hk hg, (HK0.out.more fun _ _ e => e.elim).trans hk fun _ _ e => e, HGO.out W' L' hg⟩
        unfold Lg.d
        rw [hb, ha, ho, List.map_append]
        simp [hyo]
      · rw [if_neg hz] at he ⊢
        refine ⟨L, rfl, HL.out.fresh he.2, (HK0.out.more fun _ _ e => e.elim).trans he.2 fun _ _ e => e.elim, fun k hk => .inl hk⟩
    have HD := Lib.hid hD
    obtain ⟨n, rfl⟩ := he'
    clear hadd he hD
    go_wp2
    go_end0
    exact ⟨⟨_, rfl⟩, HD.out⟩
  · rw [if_neg h1]
    by_cases h3 : kind = 3
    · subst h3
      rw [if_pos rfl]
      go_wp2_with (fail)
      generalize W.alloc (.cells #[.int .i64 3, .int .i64 x.o.dot.site, .int .i64 x.o.dot.seq, .slice x.dA x.o.deps.length x.dc, .int .i64 x.o.kind, .int .i64 x.o.id.time, .int .i64 x.o.id.site, .int .i64 x.o.ref.time, .int .i64 x.o.ref.site, .string x.o.text, .slice x.gA x.o.gone.length x.gc, .int .i64 x.o.site, .slice vA v.length vc] 47) = W1 at HK0 HL HGO HS HRG ⊢
      have hcu : ∀ e W', (if cutErr L v = 0 then CutPost W1 p L v e W' else RefPost W1 (cutErr L v) e W') → (∃ A k c n, e = .returned (.tuple #[.slice A k c, .int .i64 n])) ∧ ∃ L' : Lg, L'.d = L.d.cut v ∧ LogOf w p L' W' ∧ Kept (fun k => k = p ∨ L.oV.ownBlock = some k) W W' ∧ Goes W L.oV L'.oV := fun e W' he => by
        unfold Pl.cut
        have hee : L.d.cutErr v = cutErr L v := rfl
        rw [hee]
        by_cases hz : cutErr L v = 0
        · rw [if_pos hz] at he ⊢
          obtain ⟨L', gs, A, c, rfl, _, _, _, hl', hb, ha, ho, hk, hg⟩ := he
          refine ⟨⟨A, _, c, _, rfl⟩, L', ?_, HL.out.turn hl' hk hg, (HK0.out.more fun _ _ e => e.elim).trans hk fun _ _ e => e, HGO.out W' L' hg⟩
          unfold Lg.d
          rw [hb, ha, ho]
          exact congrArg (Pl.mk _ _) (lops_filter L.ops fun o => !hasV v o.dot)
        · rw [if_neg hz] at he ⊢
          exact ⟨⟨_, _, _, _, he.1⟩, L, rfl, HL.out.fresh he.2, (HK0.out.more fun _ _ e => e.elim).trans he.2 fun _ _ e => e.elim, fun k hk => .inl hk⟩
      have HCU := Lib.hid hcu
      clear hcu
      have hcall : Calls Try.prog 18 #[.pointer (some ⟨p, 0, none⟩), .slice vA v.length vc] W1 fun e W' => (if cutErr L v = 0 then CutPost W1 p L v e W' else RefPost W1 (cutErr L v) e W') := by
        by_cases hz : cutErr L v = 0
        · simp only [if_pos hz]
          exact Cut_yes p L vA v vc _ HL.out.l HS.out.v HS.out.vl HVB.out hz
        · simp only [if_neg hz]
          exact Cut_no p L vA v vc _ HL.out.l HS.out.v HS.out.vl hz
      refine hcall.mono fun e W' he => ?_
      obtain ⟨⟨A, k, c, n, rfl⟩, hD⟩ := HCU.out e W' he
      have HD := Lib.hid hD
      clear hcall he hD
      go_wp2
      go_end0
      exact ⟨⟨_, rfl⟩, HD.out⟩
    · rw [if_neg h3]
      have e1 : (kind == 1) = false := beq_eq_false_iff_ne.mpr h1
      have e3 : (kind == 3) = false := beq_eq_false_iff_ne.mpr h3
      go_wp2
      go_end0
      exact ⟨⟨_, rfl⟩, L, rfl, HL.out, HK0.out.more fun _ _ e => e.elim, fun k hk => .inl hk⟩
end Go.Proofs.Ytnfehkncfjgeeaa

namespace Go.Proofs.Ytnfehkncfjgeeaa
open Go Go.RowKit

theorem und_step : ∃ d, Try.prog.underlying 47 = some d ∧ d.isRow = true := ⟨.struct (Try.prog.fieldsOf 47), by kernel_rfl, rfl⟩
theorem size_step : (Try.prog.info? 47).map (·.size) = some 13 := by kernel_rfl
theorem cell_spot {w : World} {q : Addr} {v : Value} (h : w.cell? q = some v) : q = ⟨q.block, q.off, none⟩ := by
  obtain ⟨b, o, s⟩ := q
  cases s with
  | none => rfl
  | some x =>
    unfold World.cell? at h
    simp only [Option.isSome_some, if_true] at h
    split at h <;> cases h
theorem load_stp {w : World} {ops : Array Oper} {rest : List Oper} {o : Oper} {a : Act} {Q : Exit → Act → World → Prop} (hgd : o.guard = none) (x : Operand) (ho : o.op = .load 47 x) (q : Addr) (hx : a.eval x = .pointer (some q)) (s : Stp)
    (h0 : w.cell? q = some (.int .i64 s.kind)) (h1 : w.rangeAt q.block (q.off + 1) s.x.c.toList) (h2 : w.cell? ⟨q.block, q.off + 12, none⟩ = some (.slice s.vA s.v.length s.vc))
    (h : wpList Try.prog ops Q rest (a.put o.dst (.agg s.c)) w) : wpList Try.prog ops Q (o :: rest) a w := by
  have hq := cell_spot h0
  obtain ⟨b, f, sp⟩ := q
  injection hq with _ _ hsp
  subst hsp
  obtain ⟨d, hu, hd⟩ := und_step
  refine wpList_load_mid hgd _ x ho b f hx s.c.toList d (fun j v hj => ?_) hu hd size_step ?_
  · have hj' : j < 13 := by
      have := (List.getElem?_eq_some_iff.1 hj).1
      simpa [Stp.c] using this
    have hr : ∀ i v, s.x.c.toList[i]? = some v → w.cell? ⟨b, f + (1 + i), none⟩ = some v := fun i v hi => by rw [← Nat.add_assoc]; exact h1 i v hi
    match j, hj' with
    | 0, _ => rw [← hj]; exact h0
    | 1, _ => exact hr 0 v hj
    | 2, _ => exact hr 1 v hj
    | 3, _ => exact hr 2 v hj
    | 4, _ => exact hr 3 v hj
    | 5, _ => exact hr 4 v hj
    | 6, _ => exact hr 5 v hj
    | 7, _ => exact hr 6 v hj
    | 8, _ => exact hr 7 v hj
    | 9, _ => exact hr 8 v hj
    | 10, _ => exact hr 9 v hj
    | 11, _ => exact hr 10 v hj
    | 12, _ => rw [← hj]; exact h2
  · rw [Array.toArray_toList]
    exact h
/-- A script as it is handed in. -/
structure ScrAt (w : World) (A : Option Addr) (l : List Stp) : Prop where
  steps : StepsAt w A l
  xs : ∀ s ∈ l, s.x.At w ∧ (∀ r ∈ s.x.o.gone, inI r.count) ∧ DotsAt w s.vA s.v
theorem ScrAt.ok {w : World} {A : Option Addr} {l : List Stp} {nb : Nat} (h : ScrAt w A l) (hm : muchB l nb = false) : (∀ s ∈ l, StepOk w s) ∧ l.length ≤ 200 ∧ nb ≤ 60000 := by
  unfold muchB at hm
  simp only [Bool.or_eq_false_iff, decide_eq_false_iff_not, Nat.not_lt] at hm
  refine ⟨fun s hs => ?_, hm.1.1.1, hm.1.1.2⟩
  have hb : s.big = false := by
    have := hm.1.2
    rw [List.any_eq_false] at this
    simpa using this s hs
  simp only [Stp.big, Bool.or_eq_false_iff, decide_eq_false_iff_not, Nat.not_lt] at hb
  obtain ⟨h1, h2, h3⟩ := h.xs s hs
  exact ⟨h1, h3, ⟨h2, by omega, by omega, by omega⟩, by omega⟩
theorem lacks_d (L : Lg) (hv : List Dt) : (lacks hv L.ops).map (·.o) = L.d.lacks hv := by
  unfold lacks Pl.lacks
  split
  · exact lops_filter L.ops fun o => !hasV hv o.dot
  · rfl
theorem sumR_bd {r : List Int} (hr : Row r) : ∀ k, 0 ≤ sumR r k ∧ sumR r k ≤ (k : Int) * 2147483647
  | 0 => by simp [sumR]
  | k + 1 => by
    have := sumR_bd hr k
    have := hr.bd k
    simp only [sumR]
    omega
end Go.Proofs.Ytnfehkncfjgeeaa

namespace Go.Proofs.Ytnfehkncfjgeeaa
open Go Go.RowKit

theorem row_cell {w : World} {base g n c : Nat} {l : List Lop} (h : w.ownsRow base 45 11 (.slice (some ⟨g, 0, none⟩) n c) n (lops l)) (k : Nat) (hk : k < l.length) (j : Nat) (v : Value) (hv : l[k].c[j]? = some v) : w.cell? ⟨g, k * 11 + j, none⟩ = some v :=
  range_of_row h k hk j v (by rw [Array.getElem?_toList]; exact hv)
/-- In the middle of follows. -/
structure FoAt (w : World) (base : Nat) (A : Option Addr) (c : Nat) (ys : List Lop) (T : Option Addr) (t : List Dt) (F : Option Addr) (f : List Dt) (W : World) : Prop where
  k : Kept (fun _ => False) w W
  row : w.ownsRow base 45 11 (.slice A ys.length c) ys.length (lops ys)
  ats : ∀ y ∈ ys, y.At w
  t : DotsAt w T t
  f : DotsAt W F f
theorem FoAt.fresh {w : World} {base : Nat} {A : Option Addr} {c : Nat} {ys : List Lop} {T : Option Addr} {t : List Dt} {F : Option Addr} {f : List Dt} {W W' : World} (h : FoAt w base A c ys T t F f W) (hk : Kept (fun _ => False) W W') : FoAt w base A c ys T t F f W' :=
  ⟨h.k.trans hk fun _ _ e => e, h.row, h.ats, h.t, h.f.fresh hk⟩
set_option maxRecDepth 100000 in
set_option maxHeartbeats 3200000 in
theorem Follows_walk (base : Nat) (A : Option Addr) (c : Nat) (ys : List Lop) (T : Option Addr) (t : List Dt) (tc : Nat) (F : Option Addr) (f : List Dt) (fc : Nat) (w : World)
    (hrow : w.ownsRow base 45 11 (.slice A ys.length c) ys.length (lops ys)) (hat : ∀ y ∈ ys, y.At w) (hdl : ∀ y ∈ ys, y.o.deps.length ≤ 1000000) (hyl : ys.length ≤ 1000000) (ht : DotsAt w T t) (hf : DotsAt w F f) (hfl : f.length ≤ 1000000) :
    Calls Try.prog 34 #[.slice A ys.length c, .slice F f.length fc, .slice T t.length tc] w (BoolPost w (followsB (ys.map (·.o)) f t)) := by
  have HZ := Lib.hid (show FoAt w base A c ys T t F f w from ⟨Kept.refl _ _, hrow, hat, ht, hf⟩)
  obtain ⟨b, hb⟩ : ∃ b, followsB (ys.map (·.o)) f t = b := ⟨_, rfl⟩
  have HB := Lib.hid hb
  have HDL := Lib.hid hdl
  rw [hb]
  clear hrow hat ht hf hb hdl
  go_enter Try.func34, Try.ntmps34
  go_wp2_with (fail)
  go_loopw [1, 7] (fun Fv i wr => ∃ (k : Nat) (F : Option Addr) (f : List Dt) (fc : Nat), Fv = .slice F f.length fc ∧ i = .int .i64 k ∧ k ≤ ys.length ∧ f.length ≤ 1000000 ∧ followsB ((ys.drop k).map (·.o)) f t = b ∧ FoAt w base A c ys T t F f wr) (fun _ i _ => ys.length - (intOf i).toNat)
  case atStart => exact ⟨0, F, f, fc, rfl, rfl, Nat.zero_le _, hfl, HB.out, HZ.out⟩
  case round =>
    obtain ⟨k, F, f, fc, rfl, rfl, hk, hfl', hfo, hz⟩ := hrel
    have HZ1 := Lib.hid hz
    have HFO := Lib.hid hfo
    clear HZ hz hfo
    by_cases hlt : k < ys.length
    · have hrow := (Kept.own HZ1.out.k HZ1.out.row fun _ _ => id)
      obtain ⟨gr, cap, hv, _⟩ := World.ownsRow.form hrow (by omega)
      injection hv with e1 _ e3
      have HEA := Lib.hid e1
      rw [e1] at hrow
      obtain ⟨y, hy⟩ : ∃ y, ys[k] = y := ⟨_, rfl⟩
      have x0 := row_cell hrow k hlt 0 _ rfl
      have x1 := row_cell hrow k hlt 1 _ rfl
      have x2 := row_cell hrow k hlt 2 _ rfl
      rw [hy] at x0 x1 x2
      have HX := Lib.hid (show ∀ W', Kept (fun _ => False) wr W' → W'.cell? ⟨gr, k * 11, none⟩ = some (.int .i64 y.o.dot.site) ∧ W'.cell? ⟨gr, k * 11 + 1, none⟩ = some (.int .i64 y.o.dot.seq) from fun W' hk' => by
        have hr := row_cell (Kept.own hk' hrow fun _ _ => id) k hlt
        rw [hy] at hr
        exact ⟨hr 0 _ rfl, hr 1 _ rfl⟩)
      have HY := Lib.hid (HZ1.out.ats y (by rw [← hy]; exact List.getElem_mem hlt))
      have hydl := HDL.out y (by rw [← hy]; exact List.getElem_mem hlt)
      have HD := Lib.hid (show (ys.drop k).map (·.o) = y.o :: (ys.drop (k + 1)).map (·.o) by rw [List.drop_eq_getElem_cons hlt, hy]; rfl)
      rw [e1]
      clear e1 e3 hrow hy x0 x1
      go_wp2_with (fail)
      refine (RCovers_any F y.dA f y.o.deps fc y.dc _ HZ1.out.f (HY.out.fresh HZ1.out.k).d (by omega) (by omega)).mono ?_
      unfold BoolPost
      rintro e w2 ⟨rfl, hk2⟩
      have HZ2 := Lib.hid (HZ1.out.fresh hk2)
      have HX2 := Lib.hid (fun W' (h : Kept (fun _ => False) w2 W') => HX.out W' (hk2.trans h fun _ _ e => e))
      have HFS := Lib.hid (show (if coversR (says f) (says y.o.deps) = false ∨ hasV f y.o.dot = true then false else followsB ((ys.drop (k + 1)).map (·.o)) (vec (maxR (says f) (says [y.o.dot]))) t) = b by have := HFO.out; rw [HD.out] at this; exact this)
      clear hk2 HZ1 HX x2 HFO HD HB
      cases hcv : coversR (says f) (says y.o.deps) with
      | false =>
        have HBF := Lib.hid (show b = false by rw [← HFS.out, if_pos (.inl hcv)])
        clear hcv HFS
        go_wp2_with (fail)
        go_ret
        exact ⟨by rw [HBF.out]; rfl, HZ2.out.k⟩
      | true =>
        obtain ⟨y0, y1⟩ := HX2.out w2 (Kept.refl _ _)
        go_wp2_with (fail)
        refine (RHas_any F f fc y.o.dot _ HZ2.out.f (by omega)).mono ?_
        unfold BoolPost
        rintro e w3 ⟨rfl, hk3⟩
        have HZ3 := Lib.hid (HZ2.out.fresh hk3)
        obtain ⟨z0, z1⟩ := HX2.out w3 hk3
        clear hk3 HZ2 y0 y1 HX2
        cases hhs : hasV f y.o.dot with
        | true =>
          have HBF := Lib.hid (show b = false by rw [← HFS.out, if_pos (.inr hhs)])
          clear hcv HFS hhs
          go_wp2_with (fail)
          go_ret
          exact ⟨by rw [HBF.out]; rfl, HZ3.out.k⟩
        | false =>
          have HBT := Lib.hid (show followsB ((ys.drop (k + 1)).map (·.o)) (vec (maxR (says f) (says [y.o.dot]))) t = b by
            have := HFS.out
            rw [if_neg (by rw [hcv, hhs]; simp)] at this
            exact this)
          clear hcv HFS hhs
          go_wp2_with (fail)
          have HD3 := Lib.hid (dots_new1 w3 y.o.dot.site y.o.dot.seq 28)
          have HZ4 := Lib.hid (HZ3.out.fresh ((Kept.refl _ _).alloc (.cells #[.int .i64 y.o.dot.site, .int .i64 y.o.dot.seq] 28)))
          have hme := RMerge_any F (some ⟨w3.heap.size, 0, none⟩) f [y.o.dot] fc 1 _ HZ4.out.f HD3.out (by omega) (by simp)
          obtain ⟨l, hl⟩ : ∃ l, vec (maxR (says f) (says [y.o.dot])) = l := ⟨_, rfl⟩
          rw [hl] at hme HBT
          have HLL := Lib.hid (show l.length ≤ 1000000 by rw [← hl]; have := vecTo_len (maxR (says f) (says [y.o.dot])) 17; unfold vec; omega)
          refine hme.mono ?_
          rintro e w5 hfr
          obtain ⟨F5, c5, rfl, hd5, hk5⟩ := hfr.at
          have HZ5 := Lib.hid (show FoAt w base A c ys T t F5 l w5 from ⟨(HZ4.out.fresh hk5).k, HZ4.out.row, HZ4.out.ats, HZ4.out.t, hd5⟩)
          clear hme hl hfr hd5 hk5 HZ3 HD3 HZ4 z0 z1
          go_wp2_with (fail)
          go_roundw
          case rel => exact ⟨k + 1, F5, l, c5, rfl, by go_num, by omega, HLL.out, HBT.out, by rw [← HEA.out]; exact HZ5.out⟩
          case measure => simp [intOf]; omega
    · obtain rfl : k = ys.length := by omega
      have HFE := Lib.hid (show decide (f = t) = b by have := HFO.out; rw [List.drop_length] at this; exact this)
      go_wp2_with (fail)
      refine (vectors_any F T f t fc tc _ HZ1.out.f (HZ1.out.t.fresh HZ1.out.k) (by omega)).mono ?_
      unfold SamePost
      rw [HFE.out]
      rintro e w2 ⟨rfl, hk2⟩
      have HK2 := Lib.hid (HZ1.out.k.trans hk2 fun _ _ e => e)
      clear hk2
      go_wp2
      go_ret
      exact ⟨rfl, HK2.out⟩
end Go.Proofs.Ytnfehkncfjgeeaa

namespace Go.Proofs.Ytnfehkncfjgeeaa
open Go Go.RowKit

/-- A log, its vector and its base as they were told. -/
structure MeAt (w : World) (p : Nat) (L : Lg) (V B : Option Addr) (W : World) : Prop where
  l : LogOf w p L W
  v : DotsAt W V L.all
  b : DotsAt W B L.base
theorem MeAt.fresh {w W W' : World} {p : Nat} {L : Lg} {V B : Option Addr} (h : MeAt w p L V B W) (hk : Kept (fun _ => False) W W') : MeAt w p L V B W' := ⟨h.l.fresh hk, h.v.fresh hk, h.b.fresh hk⟩
theorem Lg.d_len (L : Lg) : L.d.ops.length = L.ops.length := List.length_map _

set_option maxRecDepth 100000 in
set_option maxHeartbeats 4000000 in
theorem Means_walk (B : Option Addr) (bl : List Dt) (bc : Nat) (A : Option Addr) (l : List Stp) (c : Nat) (H : Option Addr) (hv : List Dt) (hc : Nat) (w : World) (hb : DotsAt w B bl) (hs : ScrAt w A l) (hh : DotsAt w H hv)
    (hl : l.length ≤ 4611686018427387904) (hbl : bl.length ≤ 4611686018427387904) (hhl : hv.length ≤ 4611686018427387904) :
    Calls Try.prog 7 #[.slice B bl.length bc, .slice A l.length c, .slice H hv.length hc] w (BoolPost w true) := by
  have HB := Lib.hid hb
  have HS := Lib.hid hs
  have HH := Lib.hid hh
  clear hb hs hh
  go_enter Try.func7, Try.ntmps7
  go_wp2_with (fail)
  refine (much_any A l c B bl.length bc w HS.out.steps hl hbl).mono ?_
  unfold BoolPost
  rintro e w1 ⟨rfl, hk1⟩
  have HK1 := Lib.hid hk1
  clear hk1
  have hfin : ∀ W, Kept (fun _ => False) w W → Calls Try.prog 11 #[] W fun e W' => e = .returned (.bool true) ∧ Kept (fun _ => False) w W' := fun W hk => (known_any W).mono fun e W' ⟨h1, h2⟩ => ⟨h1, hk.trans h2 fun _ _ e => e⟩
  have HFIN := Lib.hid hfin
  clear hfin
  cases hm : muchB l bl.length with
  | true =>
    clear hm
    go_wp2_with (fail)
    refine (HFIN.out _ HK1.out).mono ?_
    rintro e w2 ⟨rfl, hk2⟩
    have HK2 := Lib.hid hk2
    clear hk2
    go_wp2
    go_ret
    exact ⟨rfl, HK2.out⟩
  | false =>
    obtain ⟨hok, hl200, hb6⟩ := HS.out.ok hm
    have HOK := Lib.hid hok
    clear hm hok
    by_cases hl60 : 60 < l.length
    · go_wp2_with (fail)
      refine (HFIN.out _ HK1.out).mono ?_
      rintro e w2 ⟨rfl, hk2⟩
      have HK2 := Lib.hid hk2
      clear hk2
      go_wp2
      go_ret
      exact ⟨rfl, HK2.out⟩
    have hl60' : l.length ≤ 60 := by omega
    by_cases hh6 : 60000 < hv.length
    · clear hl60
      go_wp2_with (fail)
      refine (HFIN.out _ HK1.out).mono ?_
      rintro e w2 ⟨rfl, hk2⟩
      have HK2 := Lib.hid hk2
      clear hk2
      go_wp2
      go_ret
      exact ⟨rfl, HK2.out⟩
    have hh6' : hv.length ≤ 60000 := by omega
    clear hl60 hh6
    go_wp2_with (fail)
    refine (New_any B bl bc w1 (HB.out.fresh HK1.out) (by omega)).mono ?_
    rintro e w2 (⟨hcb, p, L, rfl, hlg, hb0, ha0, ho0, hoA, hge, hk2⟩ | ⟨hcb, rfl, hk2⟩)
    rotate_left
    · have HK2 := Lib.hid (HK1.out.trans hk2 fun _ _ e => e)
      have hd : ¬ checkV bl = 0 := hcb
      clear hk2
      go_wp2_with (fail)
      refine (HFIN.out _ HK2.out).mono ?_
      rintro e w3 ⟨rfl, hk3⟩
      have HK3 := Lib.hid hk3
      clear hk3
      go_wp2
      go_ret
      exact ⟨rfl, HK3.out⟩
    have HL := Lib.hid (LogOf.made hlg (HK1.out.trans hk2 fun _ _ e => e) (Nat.le_trans HK1.out.size hge) hoA)
    have HG := Lib.hid (show L.d.Good from by unfold Lg.d; rw [hb0, ha0, ho0]; exact Pl.Good.new hcb)
    have HLL := Lib.hid (show L.ops.length ≤ 0 by rw [ho0]; simp)
    clear hcb hlg hb0 ha0 ho0 hoA hge hk2
    go_wp2_with (fail)
    go_loopw [9] (fun i wr => ∃ (k : Nat) (L : Lg), i = .int .i64 k ∧ k ≤ l.length ∧ L.ops.length ≤ k ∧ L.d.Good ∧ LogOf w p L wr) (fun i _ => l.length - (intOf i).toNat)
    case atStart => exact ⟨0, L, rfl, Nat.zero_le _, HLL.out, HG.out, HL.out⟩
    case round =>
      obtain ⟨k, L, rfl, hk, hlk, hgd, hlo⟩ := hrel
      have HLO := Lib.hid hlo
      have HGD := Lib.hid hgd
      clear hgd HL HG HLL
      by_cases hlt : k < l.length
      · obtain ⟨ad, rfl, x0, x1, x2⟩ := (HS.out.steps.fresh hlo.k) k hlt
        have HOKK := Lib.hid (HOK.out l[k] (List.getElem_mem hlt))
        obtain ⟨s, hs⟩ : ∃ s, l[k] = s := ⟨_, rfl⟩
        rw [hs] at x0 x1 x2 HOKK
        have X0 := Lib.hid x0
        have X1 := Lib.hid x1
        have X2 := Lib.hid x2
        clear x0 x1 x2 hs hlo
        go_wp2_with (refine load_stp rfl _ rfl _ rfl s X0.out X1.out X2.out ?_)
        have hdo := do_any w wr p L s HLO.out HOKK.out (by omega)
        refine hdo.mono ?_
        rintro e w3 ⟨⟨v, rfl⟩, L', hd, hlo', hk3, hg3⟩
        have hgd' : L'.d.Good := by rw [hd]; exact HGD.out.step _ _ _
        have hll : L'.ops.length ≤ k + 1 := by
          have h1 := L.d.step_len s.kind s.x.o s.v
          rw [← hd, Lg.d_len, Lg.d_len] at h1
          omega
        have hlook := hgd'.looks
        have HGD' := Lib.hid hgd'
        have HL3 := Lib.hid hlo'
        have E1 := Lib.hid (show coversR (says L'.all) (says L'.base) = true from hlook.1)
        have E2 := Lib.hid (show sumR (says L'.all) 17 = sumR (says L'.base) 17 + (L'.ops.length : Int) by have := hlook.2.1; rw [Lg.d_len] at this; exact this)
        have E3' := Lib.hid (show (lacks L'.base L'.ops).map (·.o) = L'.d.ops from (lacks_d L' L'.base).trans hlook.2.2.1)
        have E3 := Lib.hid (show (lacks L'.base L'.ops).length = L'.ops.length by have := congrArg List.length E3'.out; rw [List.length_map, Lg.d_len] at this; exact this)
        have E4 := Lib.hid (show (lacks L'.all L'.ops).length = 0 by have := congrArg List.length ((lacks_d L' L'.all).trans hlook.2.2.2.1); rw [List.length_map] at this; exact this)
        have E5 := Lib.hid (show followsB L'.d.ops L'.base L'.all = true from hlook.2.2.2.2)
        have hsb := sumR_bd (Row.says L'.base) 17
        have hbl' := hlo'.l.bl
        have hal' := hlo'.l.al
        clear hd hlo' hk3 hg3 hgd' hlook hdo X0 X1 X2 HOKK HLO HGD
        go_wp2_with (fail)
        refine (Vector_any p L' w3 HL3.out.l).mono ?_
        rintro e w4 hf
        obtain ⟨VA, vc, rfl, hdv, hk4⟩ := hf.at
        have HL4 := Lib.hid (HL3.out.fresh hk4)
        have HV4 := Lib.hid hdv
        clear hf hdv hk4 HL3
        go_wp2_with (fail)
        refine (Base_any p L' w4 HL4.out.l).mono ?_
        rintro e w5 hf
        obtain ⟨BA, bc', rfl, hdb, hk5⟩ := hf.at
        have HM := Lib.hid (show MeAt w p L' VA BA w5 from ⟨HL4.out.fresh hk5, HV4.out.fresh hk5, hdb⟩)
        clear hf hdb hk5 HL4 HV4
        go_wp2_with (fail)
        refine (RCovers_any VA BA L'.all L'.base vc bc' w5 HM.out.v HM.out.b (by omega) (by omega)).mono ?_
        unfold BoolPost
        rw [E1.out]
        rintro e w6 ⟨rfl, hk6⟩
        have HM6 := Lib.hid (HM.out.fresh hk6)
        clear hk6 HM E1
        go_wp2_with (fail)
        refine (RSum_any VA L'.all vc w6 HM6.out.v (by omega)).mono ?_
        unfold IntPost
        rw [E2.out]
        rintro e w7 ⟨rfl, hk7⟩
        have HM7 := Lib.hid (HM6.out.fresh hk7)
        clear hk7 HM6 E2
        go_wp2_with (fail)
        refine (RSum_any BA L'.base bc' w7 HM7.out.b (by omega)).mono ?_
        unfold IntPost
        rintro e w8 ⟨rfl, hk8⟩
        have HM8 := Lib.hid (HM7.out.fresh hk8)
        clear hk8 HM7
        generalize sumR (says L'.base) 17 = sb at hsb ⊢
        have hwr : IntKind.i64.wrap (sb + (L'.ops.length : Int)) = sb + (L'.ops.length : Int) := IntWalk.i64_in _ ⟨by omega, by omega⟩
        go_wp2_with (fail)
        refine (Len_any p L' w8 HM8.out.l.l).mono ?_
        unfold IntPost
        rintro e w9 ⟨rfl, hk9⟩
        have HM9 := Lib.hid (HM8.out.fresh hk9)
        clear hk9 HM8
        go_wp2_with (fail)
        refine (Lacks_of (.pointer (some ⟨p, 0, none⟩)) BA L'.base bc' w9 (lacks L'.base L'.ops) fun W hk => Beyond_any p L' BA L'.base bc' W (HM9.out.l.l.fresh hk) (HM9.out.b.fresh hk) (by omega)).mono ?_
        unfold IntPost
        rw [E3.out]
        rintro e w10 ⟨rfl, hk10⟩
        have HM10 := Lib.hid (HM9.out.fresh hk10)
        clear hk10 HM9
        go_wp2_with (fail)
        refine (Len_any p L' w10 HM10.out.l.l).mono ?_
        unfold IntPost
        rintro e w11 ⟨rfl, hk11⟩
        have HM11 := Lib.hid (HM10.out.fresh hk11)
        clear hk11 HM10
        go_wp2_with (fail)
        refine (Lacks_of (.pointer (some ⟨p, 0, none⟩)) VA L'.all vc w11 (lacks L'.all L'.ops) fun W hk => Beyond_any p L' VA L'.all vc W (HM11.out.l.l.fresh hk) (HM11.out.v.fresh hk) (by omega)).mono ?_
        unfold IntPost
        rw [E4.out]
        rintro e w12 ⟨rfl, hk12⟩
        have HM12 := Lib.hid (HM11.out.fresh hk12)
        clear hk12 HM11 E4
        go_wp2_with (fail)
        refine (Beyond_any p L' BA L'.base bc' w12 HM12.out.l.l HM12.out.b (by omega)).mono ?_
        rintro e w13 ⟨IB, IA, ic, rfl, hit, -, -, hk13⟩
        have HM13 := Lib.hid (HM12.out.fresh hk13)
        have HIT := Lib.hid hit
        clear hk13 HM12 hit
        go_wp2_with (fail)
        refine (rest_any IB _ IA ic 201 w13 HIT.out (by decide) (by decide)).mono ?_
        rintro e w14 ⟨ys, RA, rc, rfl, hys, hrow, hlan, hk14⟩
        have HM14 := Lib.hid (HM13.out.fresh hk14)
        have hyo : ys.map (·.o) = L'.d.ops := by rw [hys, E3'.out, List.take_of_length_le (by rw [Lg.d_len]; omega)]
        have HYO := Lib.hid hyo
        have HROW := Lib.hid hrow
        have HLAN := Lib.hid hlan
        have hyl : ys.length ≤ 1000000 := by
          have := congrArg List.length hyo
          rw [List.length_map, Lg.d_len] at this
          omega
        have HYD := Lib.hid (show ∀ y ∈ ys, y.o.deps.length ≤ 1000000 from fun y hy => by
          have h1 : y.o ∈ L'.d.ops := by rw [← hyo]; exact List.mem_map_of_mem hy
          obtain ⟨z, hz, he⟩ := List.mem_map.1 h1
          rw [← he]
          exact (HM14.out.l.l.small z hz).dl)
        clear hyo hrow hlan hk14 HM13 HIT hys E3 E3'
        go_wp2_with (fail)
        refine (Follows_walk _ RA rc ys VA L'.all vc BA L'.base bc' w14 HROW.out (fun y hy => (HLAN.out.own y hy).at) HYD.out hyl HM14.out.v HM14.out.b (by omega)).mono ?_
        unfold BoolPost
        rw [HYO.out, E5.out]
        rintro e w15 ⟨rfl, hk15⟩
        have HM15 := Lib.hid (HM14.out.fresh hk15)
        clear hk15 HM14 HYO E5 HROW HLAN HYD
        go_wp2_with (fail)
        go_roundw
        case rel => exact ⟨k + 1, L', by go_num, by omega, hll, HGD'.out, HM15.out.l⟩
        case measure => simp [intOf]; omega
      · obtain rfl : k = l.length := by omega
        have hll : L.ops.length ≤ 60 := by omega
        have hbl' := hlo.l.bl
        have hal' := hlo.l.al
        clear hlo hlk hk hlt
        go_wp2_with (fail)
        refine (RCheck_any H hv hc wr (HH.out.fresh HLO.out.k) (by omega)).mono ?_
        unfold IntPost
        rintro e w3 ⟨rfl, hk3⟩
        have HL3 := Lib.hid (HLO.out.fresh hk3)
        clear hk3 HLO
        by_cases hch : checkV hv = 0
        · have HBEY := Lib.hid (HGD.out.beyond hch)
          rw [hch]
          clear hch
          go_wp2_with (fail)
          refine (Base_any p L w3 HL3.out.l).mono ?_
          rintro e w4 hf
          obtain ⟨BA, bc', rfl, hdb, hk4⟩ := hf.at
          have HL4 := Lib.hid (HL3.out.fresh hk4)
          have HB4 := Lib.hid hdb
          clear hf hdb hk4 HL3
          go_wp2_with (fail)
          have hme := RMerge_any H BA hv L.base hc bc' w4 (HH.out.fresh HL4.out.k) HB4.out (by omega) (by omega)
          obtain ⟨both, hbo⟩ : ∃ both, vec (maxR (says hv) (says L.base)) = both := ⟨_, rfl⟩
          have hbol : both.length ≤ 1000000 := by rw [← hbo]; have := vecTo_len (maxR (says hv) (says L.base)) 17; unfold vec; omega
          have HBEY2 := Lib.hid (show followsB (L.d.lacks hv) both (vec (maxR (says both) (says L.all))) = true by rw [← hbo]; exact HBEY.out)
          rw [hbo] at hme
          refine hme.mono ?_
          rintro e w5 hf
          obtain ⟨CA, cc, rfl, hdc, hk5⟩ := hf.at
          have HL5 := Lib.hid (HL4.out.fresh hk5)
          have HC5 := Lib.hid hdc
          clear hme hbo hf hdc hk5 HL4 HB4 HBEY
          go_wp2_with (fail)
          refine (Beyond_any p L H hv hc w5 HL5.out.l (HH.out.fresh HL5.out.k) (by omega)).mono ?_
          rintro e w6 ⟨IB, IA, ic, rfl, hit, -, -, hk6⟩
          have HL6 := Lib.hid (HL5.out.fresh hk6)
          have HC6 := Lib.hid (HC5.out.fresh hk6)
          have HIT := Lib.hid hit
          clear hk6 HL5 HC5 hit
          go_wp2_with (fail)
          refine (rest_any IB _ IA ic 201 w6 HIT.out (by decide) (by decide)).mono ?_
          rintro e w7 ⟨ys, RA, rc, rfl, hys, hrow, hlan, hk7⟩
          have hxl : (lacks hv L.ops).length ≤ 60 := by
            unfold lacks
            split
            · exact Nat.le_trans (List.length_filter_le _ _) hll
            · simp
          have hyo : ys.map (·.o) = L.d.lacks hv := by rw [hys, List.take_of_length_le (by rw [List.length_map]; omega), lacks_d]
          have hyl : (lacks hv L.ops).length = ys.length := by
            have := congrArg List.length (hyo.trans (lacks_d L hv).symm)
            rw [List.length_map, List.length_map] at this
            exact this.symm
          have HL7 := Lib.hid (HL6.out.fresh hk7)
          have HC7 := Lib.hid (HC6.out.fresh hk7)
          have HYO := Lib.hid hyo
          have HROW := Lib.hid hrow
          have HLAN := Lib.hid hlan
          have HYL := Lib.hid hyl
          have hyn : ys.length ≤ 60 := by omega
          have HYD := Lib.hid (show ∀ y ∈ ys, y.o.deps.length ≤ 1000000 from fun y hy => by
            have h1 : y.o ∈ (lacks hv L.ops).map (·.o) := by rw [lacks_d, ← hyo]; exact List.mem_map_of_mem hy
            obtain ⟨z, hz, he⟩ := List.mem_map.1 h1
            rw [← he]
            have hz' : z ∈ L.ops := by
              unfold lacks at hz
              split at hz
              · exact (List.mem_filter.1 hz).1
              · cases hz
            exact (HL7.out.l.small z hz').dl)
          clear hyo hrow hlan hk7 HL6 HC6 HIT hys hyl hxl
          go_wp2_with (fail)
          refine (Lacks_of (.pointer (some ⟨p, 0, none⟩)) H hv hc w7 (lacks hv L.ops) fun W hk => Beyond_any p L H hv hc W (HL7.out.l.fresh hk) ((HH.out.fresh HL7.out.k).fresh hk) (by omega)).mono ?_
          unfold IntPost
          rw [HYL.out]
          rintro e w8 ⟨rfl, hk8⟩
          have HL8 := Lib.hid (HL7.out.fresh hk8)
          have HC8 := Lib.hid (HC7.out.fresh hk8)
          have HROW8 := Lib.hid (hk8.own HROW.out fun _ _ => id)
          have HLAN8 := Lib.hid (HLAN.out.fresh hk8)
          clear hk8 HL7 HC7 HROW HLAN HYL
          go_wp2_with (fail)
          refine (Vector_any p L w8 HL8.out.l).mono ?_
          rintro e w9 hf
          obtain ⟨VA, vc, rfl, hdv, hk9⟩ := hf.at
          have HL9 := Lib.hid (HL8.out.fresh hk9)
          have HC9 := Lib.hid (HC8.out.fresh hk9)
          have HROW9 := Lib.hid (hk9.own HROW8.out fun _ _ => id)
          have HLAN9 := Lib.hid (HLAN8.out.fresh hk9)
          have HV9 := Lib.hid hdv
          clear hf hdv hk9 HL8 HC8 HROW8 HLAN8
          go_wp2_with (fail)
          have hme := RMerge_any CA VA both L.all cc vc w9 HC9.out HV9.out (by omega) (by omega)
          obtain ⟨tt, hto⟩ : ∃ tt, vec (maxR (says both) (says L.all)) = tt := ⟨_, rfl⟩
          rw [hto] at hme HBEY2
          refine hme.mono ?_
          rintro e w10 hf
          obtain ⟨TA, tc, rfl, hdt, hk10⟩ := hf.at
          have HL10 := Lib.hid (HL9.out.fresh hk10)
          have HC10 := Lib.hid (HC9.out.fresh hk10)
          have HROW10 := Lib.hid (hk10.own HROW9.out fun _ _ => id)
          have HLAN10 := Lib.hid (HLAN9.out.fresh hk10)
          have HT10 := Lib.hid hdt
          clear hme hto hf hdt hk10 HL9 HC9 HROW9 HLAN9 HV9
          go_wp2_with (fail)
          refine (Follows_walk _ RA rc ys TA tt tc CA both cc w10 HROW10.out (fun y hy => (HLAN10.out.own y hy).at) HYD.out (by omega) HT10.out HC10.out (by omega)).mono ?_
          unfold BoolPost
          rw [HYO.out, HBEY2.out]
          rintro e w11 ⟨rfl, hk11⟩
          have HL11 := Lib.hid (HL10.out.fresh hk11)
          clear hk11 HL10 HC10 HROW10 HLAN10 HT10 HYD HYO HBEY2
          go_wp2_with (fail)
          refine (HFIN.out _ HL11.out.k).mono ?_
          rintro e w12 ⟨rfl, hk12⟩
          have HK12 := Lib.hid hk12
          clear hk12
          go_wp2
          go_ret
          exact ⟨rfl, HK12.out⟩
        · have HXL := Lib.hid (show lacks hv L.ops = [] from if_neg hch)
          go_wp2_with (fail)
          refine (Beyond_any p L H hv hc w3 HL3.out.l (HH.out.fresh HL3.out.k) (by omega)).mono ?_
          rintro e w4 ⟨IB, IA, ic, rfl, hit, -, -, hk4⟩
          have HL4 := Lib.hid (HL3.out.fresh hk4)
          have HIT := Lib.hid hit
          clear hk4 HL3 hit
          go_wp2_with (fail)
          refine (rest_any IB _ IA ic 2 w4 HIT.out (by decide) (by decide)).mono ?_
          rintro e w5 ⟨ys, RA, rc, rfl, hys, -, -, hk5⟩
          have hyl : ys.length = 0 := by
            rw [HXL.out] at hys
            simpa using congrArg List.length hys
          rw [hyl]
          have HL5 := Lib.hid (HL4.out.fresh hk5)
          clear hk5 HL4 hys hyl HIT
          go_wp2_with (fail)
          refine (Lacks_of (.pointer (some ⟨p, 0, none⟩)) H hv hc w5 (lacks hv L.ops) fun W hk => Beyond_any p L H hv hc W (HL5.out.l.fresh hk) ((HH.out.fresh HL5.out.k).fresh hk) (by omega)).mono ?_
          unfold IntPost
          rw [HXL.out]
          rintro e w6 ⟨rfl, hk6⟩
          have HL6 := Lib.hid (HL5.out.fresh hk6)
          clear hk6 HL5
          go_wp2_with (fail)
          refine (HFIN.out _ HL6.out.k).mono ?_
          rintro e w7 ⟨rfl, hk7⟩
          have HK7 := Lib.hid hk7
          clear hk7
          go_wp2
          go_ret
          exact ⟨rfl, HK7.out⟩
end Go.Proofs.Ytnfehkncfjgeeaa
