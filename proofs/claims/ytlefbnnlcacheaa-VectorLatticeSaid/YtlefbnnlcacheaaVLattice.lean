/- The walk of the law VectorLattice: it returns true, whatever the three lists. Conditions: the Dots lie in memory as DotsAt says. -/
import Derived.Test.YtlefbnnlcacheaaVHave
namespace Go.Proofs.Ytlefbnnlcacheaa
open Go.RowKit

set_option maxRecDepth 100000 in
set_option maxHeartbeats 12800000 in
theorem Lattice_walk (A B C : Option Addr) (la lb lc : List Dt) (cA cB cC : Nat) (w : World) (hA : DotsAt w A la) (hB : DotsAt w B lb) (hC : DotsAt w C lc) :
    Calls Try.prog 4 #[.slice A la.length cA, .slice B lb.length cB, .slice C lc.length cC] w (KnownEnd w) := by
  have hwide : 4000 < la.length ∨ (la.length ≤ 4000 ∧ 4000 < lb.length) ∨ (la.length ≤ 4000 ∧ lb.length ≤ 4000 ∧ 4000 < lc.length) ∨ (la.length ≤ 4000 ∧ lb.length ≤ 4000 ∧ lc.length ≤ 4000) := by omega
  rcases hwide with h1 | ⟨h1, h2⟩ | ⟨h1, h2, h3⟩ | ⟨h1, h2, h3⟩
  · go_enter Try.func4, Try.ntmps4
    go_wp2_with (fail)
    refine (known_any _).mono ?_
    rintro e w1 ⟨rfl, hk⟩
    have HK := Lib.hid hk
    clear hk
    go_wp2
    go_ret
    exact ⟨rfl, HK.out⟩
  · go_enter Try.func4, Try.ntmps4
    go_wp2_with (fail)
    refine (known_any _).mono ?_
    rintro e w1 ⟨rfl, hk⟩
    have HK := Lib.hid hk
    clear hk
    go_wp2
    go_ret
    exact ⟨rfl, HK.out⟩
  · go_enter Try.func4, Try.ntmps4
    go_wp2_with (fail)
    refine (known_any _).mono ?_
    rintro e w1 ⟨rfl, hk⟩
    have HK := Lib.hid hk
    clear hk
    go_wp2
    go_ret
    exact ⟨rfl, HK.out⟩
  · obtain ⟨a, ha⟩ : ∃ a, says la = a := ⟨_, rfl⟩
    obtain ⟨b, hb⟩ : ∃ b, says lb = b := ⟨_, rfl⟩
    obtain ⟨c, hc⟩ : ∃ c, says lc = c := ⟨_, rfl⟩
    have HSA := Lib.hid (show Sy la a from ⟨ha, by omega⟩)
    have HSB := Lib.hid (show Sy lb b from ⟨hb, by omega⟩)
    have HSC := Lib.hid (show Sy lc c from ⟨hc, by omega⟩)
    have HRA := Lib.hid HSA.out.row
    have HRB := Lib.hid HSB.out.row
    have HRC := Lib.hid HSC.out.row
    have HZ := Lib.hid (show Have [(A, la), (B, lb), (C, lc)] w w from ⟨fun p hp => by
      simp only [List.mem_cons, List.not_mem_nil, or_false] at hp
      rcases hp with rfl | rfl | rfl
      · exact hA
      · exact hB
      · exact hC, Kept.refl _ _⟩)
    clear ha hb hc hA hB hC
    go_enter Try.func4, Try.ntmps4
    go_upto_region 3 with (fail)
    go_wp2_with (fail)
    refine (Merge_r (HZ.out.nth 0 rfl) (HZ.out.nth 1 rfl) (HSA.out) (HSB.out)).mono ?_
    rintro e w1 hf
    obtain ⟨M, cM, rfl, hd, hk⟩ := hf.at
    clear hf
    have HZ' := Lib.hid (show Have [(M, vec (maxR a b)), (A, la), (B, lb), (C, lc)] w w1 from (HZ.out.fresh hk).add hd)
    clear hk HZ hd
    have HZ := HZ'
    clear HZ'
    go_wp2_with (fail)
    refine (Least_r (HZ.out.nth 1 rfl) (HZ.out.nth 2 rfl) (HSA.out) (HSB.out)).mono ?_
    rintro e w2 hf
    obtain ⟨L, cL, rfl, hd, hk⟩ := hf.at
    clear hf
    have HZ' := Lib.hid (show Have [(L, vec (minR a b)), (M, vec (maxR a b)), (A, la), (B, lb), (C, lc)] w w2 from (HZ.out.fresh hk).add hd)
    clear hk HZ hd
    have HZ := HZ'
    clear HZ'
    go_wp2_with (fail)
    refine (Check_r (HZ.out.nth 1 rfl) (HRA.out.maxR HRB.out)).mono ?_
    rintro e w3 ⟨rfl, hk⟩
    have HZ' := Lib.hid (show Have [(L, vec (minR a b)), (M, vec (maxR a b)), (A, la), (B, lb), (C, lc)] w w3 from HZ.out.fresh hk)
    clear hk HZ
    have HZ := HZ'
    clear HZ'
    go_wp2_with (fail)
    refine (Check_r (HZ.out.nth 0 rfl) (HRA.out.minR HRB.out)).mono ?_
    rintro e w4 ⟨rfl, hk⟩
    have HZ' := Lib.hid (show Have [(L, vec (minR a b)), (M, vec (maxR a b)), (A, la), (B, lb), (C, lc)] w w4 from HZ.out.fresh hk)
    clear hk HZ
    have HZ := HZ'
    clear HZ'
    go_wp2_with (fail)
    refine (Covers_r (HZ.out.nth 1 rfl) (HZ.out.nth 2 rfl) (Sy.vec (HRA.out.maxR HRB.out)) (HSA.out)).mono ?_
    rw [cov_max_l]
    rintro e w5 ⟨rfl, hk⟩
    have HZ' := Lib.hid (show Have [(L, vec (minR a b)), (M, vec (maxR a b)), (A, la), (B, lb), (C, lc)] w w5 from HZ.out.fresh hk)
    clear hk HZ
    have HZ := HZ'
    clear HZ'
    go_wp2_with (fail)
    refine (Covers_r (HZ.out.nth 1 rfl) (HZ.out.nth 3 rfl) (Sy.vec (HRA.out.maxR HRB.out)) (HSB.out)).mono ?_
    rw [cov_max_r]
    rintro e w6 ⟨rfl, hk⟩
    have HZ' := Lib.hid (show Have [(L, vec (minR a b)), (M, vec (maxR a b)), (A, la), (B, lb), (C, lc)] w w6 from HZ.out.fresh hk)
    clear hk HZ
    have HZ := HZ'
    clear HZ'
    go_wp2_with (fail)
    refine (Covers_r (HZ.out.nth 2 rfl) (HZ.out.nth 0 rfl) (HSA.out) (Sy.vec (HRA.out.minR HRB.out))).mono ?_
    rw [cov_min_l]
    rintro e w7 ⟨rfl, hk⟩
    have HZ' := Lib.hid (show Have [(L, vec (minR a b)), (M, vec (maxR a b)), (A, la), (B, lb), (C, lc)] w w7 from HZ.out.fresh hk)
    clear hk HZ
    have HZ := HZ'
    clear HZ'
    go_wp2_with (fail)
    refine (Covers_r (HZ.out.nth 3 rfl) (HZ.out.nth 0 rfl) (HSB.out) (Sy.vec (HRA.out.minR HRB.out))).mono ?_
    rw [cov_min_r]
    rintro e w8 ⟨rfl, hk⟩
    have HZ' := Lib.hid (show Have [(L, vec (minR a b)), (M, vec (maxR a b)), (A, la), (B, lb), (C, lc)] w w8 from HZ.out.fresh hk)
    clear hk HZ
    have HZ := HZ'
    clear HZ'
    go_wp2_with (fail)
    refine (Covers_r (HZ.out.nth 2 rfl) (HZ.out.nth 2 rfl) (HSA.out) (HSA.out)).mono ?_
    rw [cov_refl]
    rintro e w9 ⟨rfl, hk⟩
    have HZ' := Lib.hid (show Have [(L, vec (minR a b)), (M, vec (maxR a b)), (A, la), (B, lb), (C, lc)] w w9 from HZ.out.fresh hk)
    clear hk HZ
    have HZ := HZ'
    clear HZ'
    as_aux_lemma =>
      go_upto_region 7 with (fail)
      go_cut [92] (fun s wx => s = .bool false ∧ Have [(L, vec (minR a b)), (M, vec (maxR a b)), (A, la), (B, lb), (C, lc)] w wx)
      case first => as_aux_lemma =>
        cases hx : coversR c a with
        | false => as_aux_lemma =>
          have Hx := Lib.hid hx
          clear hx
          cases hu : coversR a c with
          | false => as_aux_lemma =>
            have Hu := Lib.hid hu
            clear hu
            go_wp2_with (fail)
            refine (Covers_r (HZ.out.nth 4 rfl) (HZ.out.nth 2 rfl) (HSC.out) (HSA.out)).mono ?_
            rw [Hx.out]
            rintro e w10 ⟨rfl, hk⟩
            have HZ' := Lib.hid (show Have [(L, vec (minR a b)), (M, vec (maxR a b)), (A, la), (B, lb), (C, lc)] w w10 from HZ.out.fresh hk)
            clear hk HZ
            have HZ := HZ'
            clear HZ'
            go_wp2_with (fail)
            refine (Covers_r (HZ.out.nth 2 rfl) (HZ.out.nth 4 rfl) (HSA.out) (HSC.out)).mono ?_
            rw [Hu.out]
            rintro e w11 ⟨rfl, hk⟩
            have HZ' := Lib.hid (show Have [(L, vec (minR a b)), (M, vec (maxR a b)), (A, la), (B, lb), (C, lc)] w w11 from HZ.out.fresh hk)
            clear hk HZ
            have HZ := HZ'
            clear HZ'
            go_wp2
            go_meet
            case rel => exact ⟨rfl, HZ.out⟩
          | true => as_aux_lemma =>
            have Hu := Lib.hid hu
            clear hu
            cases hv : coversR b c with
            | false => as_aux_lemma =>
              have Hv := Lib.hid hv
              clear hv
              go_wp2_with (fail)
              refine (Covers_r (HZ.out.nth 4 rfl) (HZ.out.nth 2 rfl) (HSC.out) (HSA.out)).mono ?_
              rw [Hx.out]
              rintro e w10 ⟨rfl, hk⟩
              have HZ' := Lib.hid (show Have [(L, vec (minR a b)), (M, vec (maxR a b)), (A, la), (B, lb), (C, lc)] w w10 from HZ.out.fresh hk)
              clear hk HZ
              have HZ := HZ'
              clear HZ'
              go_wp2_with (fail)
              refine (Covers_r (HZ.out.nth 2 rfl) (HZ.out.nth 4 rfl) (HSA.out) (HSC.out)).mono ?_
              rw [Hu.out]
              rintro e w11 ⟨rfl, hk⟩
              have HZ' := Lib.hid (show Have [(L, vec (minR a b)), (M, vec (maxR a b)), (A, la), (B, lb), (C, lc)] w w11 from HZ.out.fresh hk)
              clear hk HZ
              have HZ := HZ'
              clear HZ'
              go_wp2_with (fail)
              refine (Covers_r (HZ.out.nth 3 rfl) (HZ.out.nth 4 rfl) (HSB.out) (HSC.out)).mono ?_
              rw [Hv.out]
              rintro e w12 ⟨rfl, hk⟩
              have HZ' := Lib.hid (show Have [(L, vec (minR a b)), (M, vec (maxR a b)), (A, la), (B, lb), (C, lc)] w w12 from HZ.out.fresh hk)
              clear hk HZ
              have HZ := HZ'
              clear HZ'
              go_wp2_with (fail)
              refine (Covers_r (HZ.out.nth 0 rfl) (HZ.out.nth 4 rfl) (Sy.vec (HRA.out.minR HRB.out)) (HSC.out)).mono ?_
              rw [min_of_cov, Hu.out, Hv.out]
              rintro e w13 ⟨rfl, hk⟩
              have HZ' := Lib.hid (show Have [(L, vec (minR a b)), (M, vec (maxR a b)), (A, la), (B, lb), (C, lc)] w w13 from HZ.out.fresh hk)
              clear hk HZ
              have HZ := HZ'
              clear HZ'
              go_wp2
              go_meet
              case rel => exact ⟨rfl, HZ.out⟩
            | true => as_aux_lemma =>
              have Hv := Lib.hid hv
              clear hv
              go_wp2_with (fail)
              refine (Covers_r (HZ.out.nth 4 rfl) (HZ.out.nth 2 rfl) (HSC.out) (HSA.out)).mono ?_
              rw [Hx.out]
              rintro e w10 ⟨rfl, hk⟩
              have HZ' := Lib.hid (show Have [(L, vec (minR a b)), (M, vec (maxR a b)), (A, la), (B, lb), (C, lc)] w w10 from HZ.out.fresh hk)
              clear hk HZ
              have HZ := HZ'
              clear HZ'
              go_wp2_with (fail)
              refine (Covers_r (HZ.out.nth 2 rfl) (HZ.out.nth 4 rfl) (HSA.out) (HSC.out)).mono ?_
              rw [Hu.out]
              rintro e w11 ⟨rfl, hk⟩
              have HZ' := Lib.hid (show Have [(L, vec (minR a b)), (M, vec (maxR a b)), (A, la), (B, lb), (C, lc)] w w11 from HZ.out.fresh hk)
              clear hk HZ
              have HZ := HZ'
              clear HZ'
              go_wp2_with (fail)
              refine (Covers_r (HZ.out.nth 3 rfl) (HZ.out.nth 4 rfl) (HSB.out) (HSC.out)).mono ?_
              rw [Hv.out]
              rintro e w12 ⟨rfl, hk⟩
              have HZ' := Lib.hid (show Have [(L, vec (minR a b)), (M, vec (maxR a b)), (A, la), (B, lb), (C, lc)] w w12 from HZ.out.fresh hk)
              clear hk HZ
              have HZ := HZ'
              clear HZ'
              go_wp2_with (fail)
              refine (Covers_r (HZ.out.nth 0 rfl) (HZ.out.nth 4 rfl) (Sy.vec (HRA.out.minR HRB.out)) (HSC.out)).mono ?_
              rw [min_of_cov, Hu.out, Hv.out]
              rintro e w13 ⟨rfl, hk⟩
              have HZ' := Lib.hid (show Have [(L, vec (minR a b)), (M, vec (maxR a b)), (A, la), (B, lb), (C, lc)] w w13 from HZ.out.fresh hk)
              clear hk HZ
              have HZ := HZ'
              clear HZ'
              go_wp2
              go_meet
              case rel => exact ⟨rfl, HZ.out⟩
        | true => as_aux_lemma =>
          have Hx := Lib.hid hx
          clear hx
          cases hy : coversR c b with
          | false => as_aux_lemma =>
            have Hy := Lib.hid hy
            clear hy
            cases hu : coversR a c with
            | false => as_aux_lemma =>
              have Hu := Lib.hid hu
              clear hu
              go_wp2_with (fail)
              refine (Covers_r (HZ.out.nth 4 rfl) (HZ.out.nth 2 rfl) (HSC.out) (HSA.out)).mono ?_
              rw [Hx.out]
              rintro e w10 ⟨rfl, hk⟩
              have HZ' := Lib.hid (show Have [(L, vec (minR a b)), (M, vec (maxR a b)), (A, la), (B, lb), (C, lc)] w w10 from HZ.out.fresh hk)
              clear hk HZ
              have HZ := HZ'
              clear HZ'
              go_wp2_with (fail)
              refine (Covers_r (HZ.out.nth 4 rfl) (HZ.out.nth 3 rfl) (HSC.out) (HSB.out)).mono ?_
              rw [Hy.out]
              rintro e w11 ⟨rfl, hk⟩
              have HZ' := Lib.hid (show Have [(L, vec (minR a b)), (M, vec (maxR a b)), (A, la), (B, lb), (C, lc)] w w11 from HZ.out.fresh hk)
              clear hk HZ
              have HZ := HZ'
              clear HZ'
              go_wp2_with (fail)
              refine (Covers_r (HZ.out.nth 4 rfl) (HZ.out.nth 1 rfl) (HSC.out) (Sy.vec (HRA.out.maxR HRB.out))).mono ?_
              rw [cov_of_max, Hx.out, Hy.out]
              rintro e w12 ⟨rfl, hk⟩
              have HZ' := Lib.hid (show Have [(L, vec (minR a b)), (M, vec (maxR a b)), (A, la), (B, lb), (C, lc)] w w12 from HZ.out.fresh hk)
              clear hk HZ
              have HZ := HZ'
              clear HZ'
              go_wp2_with (fail)
              refine (Covers_r (HZ.out.nth 2 rfl) (HZ.out.nth 4 rfl) (HSA.out) (HSC.out)).mono ?_
              rw [Hu.out]
              rintro e w13 ⟨rfl, hk⟩
              have HZ' := Lib.hid (show Have [(L, vec (minR a b)), (M, vec (maxR a b)), (A, la), (B, lb), (C, lc)] w w13 from HZ.out.fresh hk)
              clear hk HZ
              have HZ := HZ'
              clear HZ'
              go_wp2
              go_meet
              case rel => exact ⟨rfl, HZ.out⟩
            | true => as_aux_lemma =>
              have Hu := Lib.hid hu
              clear hu
              cases hv : coversR b c with
              | false => as_aux_lemma =>
                have Hv := Lib.hid hv
                clear hv
                go_wp2_with (fail)
                refine (Covers_r (HZ.out.nth 4 rfl) (HZ.out.nth 2 rfl) (HSC.out) (HSA.out)).mono ?_
                rw [Hx.out]
                rintro e w10 ⟨rfl, hk⟩
                have HZ' := Lib.hid (show Have [(L, vec (minR a b)), (M, vec (maxR a b)), (A, la), (B, lb), (C, lc)] w w10 from HZ.out.fresh hk)
                clear hk HZ
                have HZ := HZ'
                clear HZ'
                go_wp2_with (fail)
                refine (Covers_r (HZ.out.nth 4 rfl) (HZ.out.nth 3 rfl) (HSC.out) (HSB.out)).mono ?_
                rw [Hy.out]
                rintro e w11 ⟨rfl, hk⟩
                have HZ' := Lib.hid (show Have [(L, vec (minR a b)), (M, vec (maxR a b)), (A, la), (B, lb), (C, lc)] w w11 from HZ.out.fresh hk)
                clear hk HZ
                have HZ := HZ'
                clear HZ'
                go_wp2_with (fail)
                refine (Covers_r (HZ.out.nth 4 rfl) (HZ.out.nth 1 rfl) (HSC.out) (Sy.vec (HRA.out.maxR HRB.out))).mono ?_
                rw [cov_of_max, Hx.out, Hy.out]
                rintro e w12 ⟨rfl, hk⟩
                have HZ' := Lib.hid (show Have [(L, vec (minR a b)), (M, vec (maxR a b)), (A, la), (B, lb), (C, lc)] w w12 from HZ.out.fresh hk)
                clear hk HZ
                have HZ := HZ'
                clear HZ'
                go_wp2_with (fail)
                refine (Covers_r (HZ.out.nth 2 rfl) (HZ.out.nth 4 rfl) (HSA.out) (HSC.out)).mono ?_
                rw [Hu.out]
                rintro e w13 ⟨rfl, hk⟩
                have HZ' := Lib.hid (show Have [(L, vec (minR a b)), (M, vec (maxR a b)), (A, la), (B, lb), (C, lc)] w w13 from HZ.out.fresh hk)
                clear hk HZ
                have HZ := HZ'
                clear HZ'
                go_wp2_with (fail)
                refine (Covers_r (HZ.out.nth 3 rfl) (HZ.out.nth 4 rfl) (HSB.out) (HSC.out)).mono ?_
                rw [Hv.out]
                rintro e w14 ⟨rfl, hk⟩
                have HZ' := Lib.hid (show Have [(L, vec (minR a b)), (M, vec (maxR a b)), (A, la), (B, lb), (C, lc)] w w14 from HZ.out.fresh hk)
                clear hk HZ
                have HZ := HZ'
                clear HZ'
                go_wp2_with (fail)
                refine (Covers_r (HZ.out.nth 0 rfl) (HZ.out.nth 4 rfl) (Sy.vec (HRA.out.minR HRB.out)) (HSC.out)).mono ?_
                rw [min_of_cov, Hu.out, Hv.out]
                rintro e w15 ⟨rfl, hk⟩
                have HZ' := Lib.hid (show Have [(L, vec (minR a b)), (M, vec (maxR a b)), (A, la), (B, lb), (C, lc)] w w15 from HZ.out.fresh hk)
                clear hk HZ
                have HZ := HZ'
                clear HZ'
                go_wp2
                go_meet
                case rel => exact ⟨rfl, HZ.out⟩
              | true => as_aux_lemma =>
                have Hv := Lib.hid hv
                clear hv
                go_wp2_with (fail)
                refine (Covers_r (HZ.out.nth 4 rfl) (HZ.out.nth 2 rfl) (HSC.out) (HSA.out)).mono ?_
                rw [Hx.out]
                rintro e w10 ⟨rfl, hk⟩
                have HZ' := Lib.hid (show Have [(L, vec (minR a b)), (M, vec (maxR a b)), (A, la), (B, lb), (C, lc)] w w10 from HZ.out.fresh hk)
                clear hk HZ
                have HZ := HZ'
                clear HZ'
                go_wp2_with (fail)
                refine (Covers_r (HZ.out.nth 4 rfl) (HZ.out.nth 3 rfl) (HSC.out) (HSB.out)).mono ?_
                rw [Hy.out]
                rintro e w11 ⟨rfl, hk⟩
                have HZ' := Lib.hid (show Have [(L, vec (minR a b)), (M, vec (maxR a b)), (A, la), (B, lb), (C, lc)] w w11 from HZ.out.fresh hk)
                clear hk HZ
                have HZ := HZ'
                clear HZ'
                go_wp2_with (fail)
                refine (Covers_r (HZ.out.nth 4 rfl) (HZ.out.nth 1 rfl) (HSC.out) (Sy.vec (HRA.out.maxR HRB.out))).mono ?_
                rw [cov_of_max, Hx.out, Hy.out]
                rintro e w12 ⟨rfl, hk⟩
                have HZ' := Lib.hid (show Have [(L, vec (minR a b)), (M, vec (maxR a b)), (A, la), (B, lb), (C, lc)] w w12 from HZ.out.fresh hk)
                clear hk HZ
                have HZ := HZ'
                clear HZ'
                go_wp2_with (fail)
                refine (Covers_r (HZ.out.nth 2 rfl) (HZ.out.nth 4 rfl) (HSA.out) (HSC.out)).mono ?_
                rw [Hu.out]
                rintro e w13 ⟨rfl, hk⟩
                have HZ' := Lib.hid (show Have [(L, vec (minR a b)), (M, vec (maxR a b)), (A, la), (B, lb), (C, lc)] w w13 from HZ.out.fresh hk)
                clear hk HZ
                have HZ := HZ'
                clear HZ'
                go_wp2_with (fail)
                refine (Covers_r (HZ.out.nth 3 rfl) (HZ.out.nth 4 rfl) (HSB.out) (HSC.out)).mono ?_
                rw [Hv.out]
                rintro e w14 ⟨rfl, hk⟩
                have HZ' := Lib.hid (show Have [(L, vec (minR a b)), (M, vec (maxR a b)), (A, la), (B, lb), (C, lc)] w w14 from HZ.out.fresh hk)
                clear hk HZ
                have HZ := HZ'
                clear HZ'
                go_wp2_with (fail)
                refine (Covers_r (HZ.out.nth 0 rfl) (HZ.out.nth 4 rfl) (Sy.vec (HRA.out.minR HRB.out)) (HSC.out)).mono ?_
                rw [min_of_cov, Hu.out, Hv.out]
                rintro e w15 ⟨rfl, hk⟩
                have HZ' := Lib.hid (show Have [(L, vec (minR a b)), (M, vec (maxR a b)), (A, la), (B, lb), (C, lc)] w w15 from HZ.out.fresh hk)
                clear hk HZ
                have HZ := HZ'
                clear HZ'
                go_wp2
                go_meet
                case rel => exact ⟨rfl, HZ.out⟩
          | true => as_aux_lemma =>
            have Hy := Lib.hid hy
            clear hy
            cases hu : coversR a c with
            | false => as_aux_lemma =>
              have Hu := Lib.hid hu
              clear hu
              go_wp2_with (fail)
              refine (Covers_r (HZ.out.nth 4 rfl) (HZ.out.nth 2 rfl) (HSC.out) (HSA.out)).mono ?_
              rw [Hx.out]
              rintro e w10 ⟨rfl, hk⟩
              have HZ' := Lib.hid (show Have [(L, vec (minR a b)), (M, vec (maxR a b)), (A, la), (B, lb), (C, lc)] w w10 from HZ.out.fresh hk)
              clear hk HZ
              have HZ := HZ'
              clear HZ'
              go_wp2_with (fail)
              refine (Covers_r (HZ.out.nth 4 rfl) (HZ.out.nth 3 rfl) (HSC.out) (HSB.out)).mono ?_
              rw [Hy.out]
              rintro e w11 ⟨rfl, hk⟩
              have HZ' := Lib.hid (show Have [(L, vec (minR a b)), (M, vec (maxR a b)), (A, la), (B, lb), (C, lc)] w w11 from HZ.out.fresh hk)
              clear hk HZ
              have HZ := HZ'
              clear HZ'
              go_wp2_with (fail)
              refine (Covers_r (HZ.out.nth 4 rfl) (HZ.out.nth 1 rfl) (HSC.out) (Sy.vec (HRA.out.maxR HRB.out))).mono ?_
              rw [cov_of_max, Hx.out, Hy.out]
              rintro e w12 ⟨rfl, hk⟩
              have HZ' := Lib.hid (show Have [(L, vec (minR a b)), (M, vec (maxR a b)), (A, la), (B, lb), (C, lc)] w w12 from HZ.out.fresh hk)
              clear hk HZ
              have HZ := HZ'
              clear HZ'
              go_wp2_with (fail)
              refine (Covers_r (HZ.out.nth 2 rfl) (HZ.out.nth 4 rfl) (HSA.out) (HSC.out)).mono ?_
              rw [Hu.out]
              rintro e w13 ⟨rfl, hk⟩
              have HZ' := Lib.hid (show Have [(L, vec (minR a b)), (M, vec (maxR a b)), (A, la), (B, lb), (C, lc)] w w13 from HZ.out.fresh hk)
              clear hk HZ
              have HZ := HZ'
              clear HZ'
              go_wp2
              go_meet
              case rel => exact ⟨rfl, HZ.out⟩
            | true => as_aux_lemma =>
              have Hu := Lib.hid hu
              clear hu
              cases hv : coversR b c with
              | false => as_aux_lemma =>
                have Hv := Lib.hid hv
                clear hv
                go_wp2_with (fail)
                refine (Covers_r (HZ.out.nth 4 rfl) (HZ.out.nth 2 rfl) (HSC.out) (HSA.out)).mono ?_
                rw [Hx.out]
                rintro e w10 ⟨rfl, hk⟩
                have HZ' := Lib.hid (show Have [(L, vec (minR a b)), (M, vec (maxR a b)), (A, la), (B, lb), (C, lc)] w w10 from HZ.out.fresh hk)
                clear hk HZ
                have HZ := HZ'
                clear HZ'
                go_wp2_with (fail)
                refine (Covers_r (HZ.out.nth 4 rfl) (HZ.out.nth 3 rfl) (HSC.out) (HSB.out)).mono ?_
                rw [Hy.out]
                rintro e w11 ⟨rfl, hk⟩
                have HZ' := Lib.hid (show Have [(L, vec (minR a b)), (M, vec (maxR a b)), (A, la), (B, lb), (C, lc)] w w11 from HZ.out.fresh hk)
                clear hk HZ
                have HZ := HZ'
                clear HZ'
                go_wp2_with (fail)
                refine (Covers_r (HZ.out.nth 4 rfl) (HZ.out.nth 1 rfl) (HSC.out) (Sy.vec (HRA.out.maxR HRB.out))).mono ?_
                rw [cov_of_max, Hx.out, Hy.out]
                rintro e w12 ⟨rfl, hk⟩
                have HZ' := Lib.hid (show Have [(L, vec (minR a b)), (M, vec (maxR a b)), (A, la), (B, lb), (C, lc)] w w12 from HZ.out.fresh hk)
                clear hk HZ
                have HZ := HZ'
                clear HZ'
                go_wp2_with (fail)
                refine (Covers_r (HZ.out.nth 2 rfl) (HZ.out.nth 4 rfl) (HSA.out) (HSC.out)).mono ?_
                rw [Hu.out]
                rintro e w13 ⟨rfl, hk⟩
                have HZ' := Lib.hid (show Have [(L, vec (minR a b)), (M, vec (maxR a b)), (A, la), (B, lb), (C, lc)] w w13 from HZ.out.fresh hk)
                clear hk HZ
                have HZ := HZ'
                clear HZ'
                go_wp2_with (fail)
                refine (Covers_r (HZ.out.nth 3 rfl) (HZ.out.nth 4 rfl) (HSB.out) (HSC.out)).mono ?_
                rw [Hv.out]
                rintro e w14 ⟨rfl, hk⟩
                have HZ' := Lib.hid (show Have [(L, vec (minR a b)), (M, vec (maxR a b)), (A, la), (B, lb), (C, lc)] w w14 from HZ.out.fresh hk)
                clear hk HZ
                have HZ := HZ'
                clear HZ'
                go_wp2_with (fail)
                refine (Covers_r (HZ.out.nth 0 rfl) (HZ.out.nth 4 rfl) (Sy.vec (HRA.out.minR HRB.out)) (HSC.out)).mono ?_
                rw [min_of_cov, Hu.out, Hv.out]
                rintro e w15 ⟨rfl, hk⟩
                have HZ' := Lib.hid (show Have [(L, vec (minR a b)), (M, vec (maxR a b)), (A, la), (B, lb), (C, lc)] w w15 from HZ.out.fresh hk)
                clear hk HZ
                have HZ := HZ'
                clear HZ'
                go_wp2
                go_meet
                case rel => exact ⟨rfl, HZ.out⟩
              | true => as_aux_lemma =>
                have Hv := Lib.hid hv
                clear hv
                go_wp2_with (fail)
                refine (Covers_r (HZ.out.nth 4 rfl) (HZ.out.nth 2 rfl) (HSC.out) (HSA.out)).mono ?_
                rw [Hx.out]
                rintro e w10 ⟨rfl, hk⟩
                have HZ' := Lib.hid (show Have [(L, vec (minR a b)), (M, vec (maxR a b)), (A, la), (B, lb), (C, lc)] w w10 from HZ.out.fresh hk)
                clear hk HZ
                have HZ := HZ'
                clear HZ'
                go_wp2_with (fail)
                refine (Covers_r (HZ.out.nth 4 rfl) (HZ.out.nth 3 rfl) (HSC.out) (HSB.out)).mono ?_
                rw [Hy.out]
                rintro e w11 ⟨rfl, hk⟩
                have HZ' := Lib.hid (show Have [(L, vec (minR a b)), (M, vec (maxR a b)), (A, la), (B, lb), (C, lc)] w w11 from HZ.out.fresh hk)
                clear hk HZ
                have HZ := HZ'
                clear HZ'
                go_wp2_with (fail)
                refine (Covers_r (HZ.out.nth 4 rfl) (HZ.out.nth 1 rfl) (HSC.out) (Sy.vec (HRA.out.maxR HRB.out))).mono ?_
                rw [cov_of_max, Hx.out, Hy.out]
                rintro e w12 ⟨rfl, hk⟩
                have HZ' := Lib.hid (show Have [(L, vec (minR a b)), (M, vec (maxR a b)), (A, la), (B, lb), (C, lc)] w w12 from HZ.out.fresh hk)
                clear hk HZ
                have HZ := HZ'
                clear HZ'
                go_wp2_with (fail)
                refine (Covers_r (HZ.out.nth 2 rfl) (HZ.out.nth 4 rfl) (HSA.out) (HSC.out)).mono ?_
                rw [Hu.out]
                rintro e w13 ⟨rfl, hk⟩
                have HZ' := Lib.hid (show Have [(L, vec (minR a b)), (M, vec (maxR a b)), (A, la), (B, lb), (C, lc)] w w13 from HZ.out.fresh hk)
                clear hk HZ
                have HZ := HZ'
                clear HZ'
                go_wp2_with (fail)
                refine (Covers_r (HZ.out.nth 3 rfl) (HZ.out.nth 4 rfl) (HSB.out) (HSC.out)).mono ?_
                rw [Hv.out]
                rintro e w14 ⟨rfl, hk⟩
                have HZ' := Lib.hid (show Have [(L, vec (minR a b)), (M, vec (maxR a b)), (A, la), (B, lb), (C, lc)] w w14 from HZ.out.fresh hk)
                clear hk HZ
                have HZ := HZ'
                clear HZ'
                go_wp2_with (fail)
                refine (Covers_r (HZ.out.nth 0 rfl) (HZ.out.nth 4 rfl) (Sy.vec (HRA.out.minR HRB.out)) (HSC.out)).mono ?_
                rw [min_of_cov, Hu.out, Hv.out]
                rintro e w15 ⟨rfl, hk⟩
                have HZ' := Lib.hid (show Have [(L, vec (minR a b)), (M, vec (maxR a b)), (A, la), (B, lb), (C, lc)] w w15 from HZ.out.fresh hk)
                clear hk HZ
                have HZ := HZ'
                clear HZ'
                go_wp2
                go_meet
                case rel => exact ⟨rfl, HZ.out⟩
      case rest => as_aux_lemma =>
        obtain ⟨rfl, hz⟩ := hcut
        obtain ⟨wq1, rfl⟩ : ∃ wq : World, wq = wc := ⟨_, rfl⟩
        clear HZ
        have HZ := Lib.hid hz
        clear hz
        go_upto_region 9 with (fail)
        go_cut [134] (fun s wx => s = .bool false ∧ Have [(L, vec (minR a b)), (M, vec (maxR a b)), (A, la), (B, lb), (C, lc)] w wx)
        case first => as_aux_lemma =>
          cases hp : coversR a b with
          | false => as_aux_lemma =>
            have Hp := Lib.hid hp
            clear hp
            go_wp2_with (fail)
            refine (Covers_r (HZ.out.nth 2 rfl) (HZ.out.nth 3 rfl) (HSA.out) (HSB.out)).mono ?_
            rw [Hp.out]
            rintro e w10 ⟨rfl, hk⟩
            have HZ' := Lib.hid (show Have [(L, vec (minR a b)), (M, vec (maxR a b)), (A, la), (B, lb), (C, lc)] w w10 from HZ.out.fresh hk)
            clear hk HZ
            have HZ := HZ'
            clear HZ'
            go_wp2_with (fail)
            refine (Covers_r (HZ.out.nth 2 rfl) (HZ.out.nth 3 rfl) (HSA.out) (HSB.out)).mono ?_
            rw [Hp.out]
            rintro e w11 ⟨rfl, hk⟩
            have HZ' := Lib.hid (show Have [(L, vec (minR a b)), (M, vec (maxR a b)), (A, la), (B, lb), (C, lc)] w w11 from HZ.out.fresh hk)
            clear hk HZ
            have HZ := HZ'
            clear HZ'
            go_wp2_with (fail)
            refine (Covers_r (HZ.out.nth 2 rfl) (HZ.out.nth 3 rfl) (HSA.out) (HSB.out)).mono ?_
            rw [Hp.out]
            rintro e w12 ⟨rfl, hk⟩
            have HZ' := Lib.hid (show Have [(L, vec (minR a b)), (M, vec (maxR a b)), (A, la), (B, lb), (C, lc)] w w12 from HZ.out.fresh hk)
            clear hk HZ
            have HZ := HZ'
            clear HZ'
            go_wp2_with (fail)
            refine (Merge_r (HZ.out.nth 2 rfl) DotsAt.nil (HSA.out) Sy.nil).mono ?_
            rintro e w13 hf
            obtain ⟨M3, cM3, rfl, hd, hk⟩ := hf.at
            clear hf
            have HZ' := Lib.hid (show Have [(M3, vec (maxR a row0)), (L, vec (minR a b)), (M, vec (maxR a b)), (A, la), (B, lb), (C, lc)] w w13 from (HZ.out.fresh hk).add hd)
            clear hk HZ hd
            have HZ := HZ'
            clear HZ'
            go_wp2_with (fail)
            refine (Same_any _ _ _ _ _ _ _ (HZ.out.nth 2 rfl) (HZ.out.nth 0 rfl) (Sy.vec (HRA.out.maxR HRB.out)).len).mono ?_
            rw [← cov_same HRA.out HRB.out, Hp.out]
            rintro e w14 ⟨rfl, hk⟩
            have HZ' := Lib.hid (show Have [(M3, vec (maxR a row0)), (L, vec (minR a b)), (M, vec (maxR a b)), (A, la), (B, lb), (C, lc)] w w14 from HZ.out.fresh hk)
            clear hk HZ
            have HZ := HZ'
            clear HZ'
            go_wp2
            go_meet
            case rel => exact ⟨rfl, HZ.out.less (by simp)⟩
          | true => as_aux_lemma =>
            have Hp := Lib.hid hp
            clear hp
            cases hq : coversR b c with
            | false => as_aux_lemma =>
              have Hq := Lib.hid hq
              clear hq
              cases hr : coversR b a with
              | false => as_aux_lemma =>
                have Hr := Lib.hid hr
                clear hr
                go_wp2_with (fail)
                refine (Covers_r (HZ.out.nth 2 rfl) (HZ.out.nth 3 rfl) (HSA.out) (HSB.out)).mono ?_
                rw [Hp.out]
                rintro e w10 ⟨rfl, hk⟩
                have HZ' := Lib.hid (show Have [(L, vec (minR a b)), (M, vec (maxR a b)), (A, la), (B, lb), (C, lc)] w w10 from HZ.out.fresh hk)
                clear hk HZ
                have HZ := HZ'
                clear HZ'
                go_wp2_with (fail)
                refine (Covers_r (HZ.out.nth 3 rfl) (HZ.out.nth 4 rfl) (HSB.out) (HSC.out)).mono ?_
                rw [Hq.out]
                rintro e w11 ⟨rfl, hk⟩
                have HZ' := Lib.hid (show Have [(L, vec (minR a b)), (M, vec (maxR a b)), (A, la), (B, lb), (C, lc)] w w11 from HZ.out.fresh hk)
                clear hk HZ
                have HZ := HZ'
                clear HZ'
                go_wp2_with (fail)
                refine (Covers_r (HZ.out.nth 2 rfl) (HZ.out.nth 3 rfl) (HSA.out) (HSB.out)).mono ?_
                rw [Hp.out]
                rintro e w12 ⟨rfl, hk⟩
                have HZ' := Lib.hid (show Have [(L, vec (minR a b)), (M, vec (maxR a b)), (A, la), (B, lb), (C, lc)] w w12 from HZ.out.fresh hk)
                clear hk HZ
                have HZ := HZ'
                clear HZ'
                go_wp2_with (fail)
                refine (Covers_r (HZ.out.nth 3 rfl) (HZ.out.nth 2 rfl) (HSB.out) (HSA.out)).mono ?_
                rw [Hr.out]
                rintro e w13 ⟨rfl, hk⟩
                have HZ' := Lib.hid (show Have [(L, vec (minR a b)), (M, vec (maxR a b)), (A, la), (B, lb), (C, lc)] w w13 from HZ.out.fresh hk)
                clear hk HZ
                have HZ := HZ'
                clear HZ'
                go_wp2_with (fail)
                refine (Covers_r (HZ.out.nth 2 rfl) (HZ.out.nth 3 rfl) (HSA.out) (HSB.out)).mono ?_
                rw [Hp.out]
                rintro e w14 ⟨rfl, hk⟩
                have HZ' := Lib.hid (show Have [(L, vec (minR a b)), (M, vec (maxR a b)), (A, la), (B, lb), (C, lc)] w w14 from HZ.out.fresh hk)
                clear hk HZ
                have HZ := HZ'
                clear HZ'
                go_wp2_with (fail)
                refine (Merge_r (HZ.out.nth 2 rfl) DotsAt.nil (HSA.out) Sy.nil).mono ?_
                rintro e w15 hf
                obtain ⟨M3, cM3, rfl, hd, hk⟩ := hf.at
                clear hf
                have HZ' := Lib.hid (show Have [(M3, vec (maxR a row0)), (L, vec (minR a b)), (M, vec (maxR a b)), (A, la), (B, lb), (C, lc)] w w15 from (HZ.out.fresh hk).add hd)
                clear hk HZ hd
                have HZ := HZ'
                clear HZ'
                go_wp2_with (fail)
                refine (Same_any _ _ _ _ _ _ _ (HZ.out.nth 2 rfl) (HZ.out.nth 0 rfl) (Sy.vec (HRA.out.maxR HRB.out)).len).mono ?_
                rw [← cov_same HRA.out HRB.out, Hp.out]
                rintro e w16 ⟨rfl, hk⟩
                have HZ' := Lib.hid (show Have [(M3, vec (maxR a row0)), (L, vec (minR a b)), (M, vec (maxR a b)), (A, la), (B, lb), (C, lc)] w w16 from HZ.out.fresh hk)
                clear hk HZ
                have HZ := HZ'
                clear HZ'
                go_wp2
                go_meet
                case rel => exact ⟨rfl, HZ.out.less (by simp)⟩
              | true => as_aux_lemma =>
                have Hr := Lib.hid hr
                clear hr
                go_wp2_with (fail)
                refine (Covers_r (HZ.out.nth 2 rfl) (HZ.out.nth 3 rfl) (HSA.out) (HSB.out)).mono ?_
                rw [Hp.out]
                rintro e w10 ⟨rfl, hk⟩
                have HZ' := Lib.hid (show Have [(L, vec (minR a b)), (M, vec (maxR a b)), (A, la), (B, lb), (C, lc)] w w10 from HZ.out.fresh hk)
                clear hk HZ
                have HZ := HZ'
                clear HZ'
                go_wp2_with (fail)
                refine (Covers_r (HZ.out.nth 3 rfl) (HZ.out.nth 4 rfl) (HSB.out) (HSC.out)).mono ?_
                rw [Hq.out]
                rintro e w11 ⟨rfl, hk⟩
                have HZ' := Lib.hid (show Have [(L, vec (minR a b)), (M, vec (maxR a b)), (A, la), (B, lb), (C, lc)] w w11 from HZ.out.fresh hk)
                clear hk HZ
                have HZ := HZ'
                clear HZ'
                go_wp2_with (fail)
                refine (Covers_r (HZ.out.nth 2 rfl) (HZ.out.nth 3 rfl) (HSA.out) (HSB.out)).mono ?_
                rw [Hp.out]
                rintro e w12 ⟨rfl, hk⟩
                have HZ' := Lib.hid (show Have [(L, vec (minR a b)), (M, vec (maxR a b)), (A, la), (B, lb), (C, lc)] w w12 from HZ.out.fresh hk)
                clear hk HZ
                have HZ := HZ'
                clear HZ'
                go_wp2_with (fail)
                refine (Covers_r (HZ.out.nth 3 rfl) (HZ.out.nth 2 rfl) (HSB.out) (HSA.out)).mono ?_
                rw [Hr.out]
                rintro e w13 ⟨rfl, hk⟩
                have HZ' := Lib.hid (show Have [(L, vec (minR a b)), (M, vec (maxR a b)), (A, la), (B, lb), (C, lc)] w w13 from HZ.out.fresh hk)
                clear hk HZ
                have HZ := HZ'
                clear HZ'
                go_wp2_with (fail)
                refine (Merge_r (HZ.out.nth 2 rfl) DotsAt.nil (HSA.out) Sy.nil).mono ?_
                rintro e w14 hf
                obtain ⟨M1, cM1, rfl, hd, hk⟩ := hf.at
                clear hf
                have HZ' := Lib.hid (show Have [(M1, vec (maxR a row0)), (L, vec (minR a b)), (M, vec (maxR a b)), (A, la), (B, lb), (C, lc)] w w14 from (HZ.out.fresh hk).add hd)
                clear hk HZ hd
                have HZ := HZ'
                clear HZ'
                go_wp2_with (fail)
                refine (Merge_r (HZ.out.nth 4 rfl) DotsAt.nil (HSB.out) Sy.nil).mono ?_
                rintro e w15 hf
                obtain ⟨M2, cM2, rfl, hd, hk⟩ := hf.at
                clear hf
                have HZ' := Lib.hid (show Have [(M2, vec (maxR b row0)), (M1, vec (maxR a row0)), (L, vec (minR a b)), (M, vec (maxR a b)), (A, la), (B, lb), (C, lc)] w w15 from (HZ.out.fresh hk).add hd)
                clear hk HZ hd
                have HZ := HZ'
                clear HZ'
                go_wp2_with (fail)
                refine (Same_any _ _ _ _ _ _ _ (HZ.out.nth 1 rfl) (HZ.out.nth 0 rfl) (Sy.vec (HRA.out.maxR Row.row0)).len).mono ?_
                rw [decide_eq_true (by rw [cov_anti HRA.out HRB.out Hp.out Hr.out])]
                rintro e w16 ⟨rfl, hk⟩
                have HZ' := Lib.hid (show Have [(M2, vec (maxR b row0)), (M1, vec (maxR a row0)), (L, vec (minR a b)), (M, vec (maxR a b)), (A, la), (B, lb), (C, lc)] w w16 from HZ.out.fresh hk)
                clear hk HZ
                have HZ := HZ'
                clear HZ'
                go_wp2_with (fail)
                refine (Covers_r (HZ.out.nth 4 rfl) (HZ.out.nth 5 rfl) (HSA.out) (HSB.out)).mono ?_
                rw [Hp.out]
                rintro e w17 ⟨rfl, hk⟩
                have HZ' := Lib.hid (show Have [(M2, vec (maxR b row0)), (M1, vec (maxR a row0)), (L, vec (minR a b)), (M, vec (maxR a b)), (A, la), (B, lb), (C, lc)] w w17 from HZ.out.fresh hk)
                clear hk HZ
                have HZ := HZ'
                clear HZ'
                go_wp2_with (fail)
                refine (Merge_r (HZ.out.nth 4 rfl) DotsAt.nil (HSA.out) Sy.nil).mono ?_
                rintro e w18 hf
                obtain ⟨M3, cM3, rfl, hd, hk⟩ := hf.at
                clear hf
                have HZ' := Lib.hid (show Have [(M3, vec (maxR a row0)), (M2, vec (maxR b row0)), (M1, vec (maxR a row0)), (L, vec (minR a b)), (M, vec (maxR a b)), (A, la), (B, lb), (C, lc)] w w18 from (HZ.out.fresh hk).add hd)
                clear hk HZ hd
                have HZ := HZ'
                clear HZ'
                go_wp2_with (fail)
                refine (Same_any _ _ _ _ _ _ _ (HZ.out.nth 4 rfl) (HZ.out.nth 0 rfl) (Sy.vec (HRA.out.maxR HRB.out)).len).mono ?_
                rw [← cov_same HRA.out HRB.out, Hp.out]
                rintro e w19 ⟨rfl, hk⟩
                have HZ' := Lib.hid (show Have [(M3, vec (maxR a row0)), (M2, vec (maxR b row0)), (M1, vec (maxR a row0)), (L, vec (minR a b)), (M, vec (maxR a b)), (A, la), (B, lb), (C, lc)] w w19 from HZ.out.fresh hk)
                clear hk HZ
                have HZ := HZ'
                clear HZ'
                go_wp2
                go_meet
                case rel => exact ⟨rfl, HZ.out.less (by simp)⟩
            | true => as_aux_lemma =>
              have Hq := Lib.hid hq
              clear hq
              cases hr : coversR b a with
              | false => as_aux_lemma =>
                have Hr := Lib.hid hr
                clear hr
                go_wp2_with (fail)
                refine (Covers_r (HZ.out.nth 2 rfl) (HZ.out.nth 3 rfl) (HSA.out) (HSB.out)).mono ?_
                rw [Hp.out]
                rintro e w10 ⟨rfl, hk⟩
                have HZ' := Lib.hid (show Have [(L, vec (minR a b)), (M, vec (maxR a b)), (A, la), (B, lb), (C, lc)] w w10 from HZ.out.fresh hk)
                clear hk HZ
                have HZ := HZ'
                clear HZ'
                go_wp2_with (fail)
                refine (Covers_r (HZ.out.nth 3 rfl) (HZ.out.nth 4 rfl) (HSB.out) (HSC.out)).mono ?_
                rw [Hq.out]
                rintro e w11 ⟨rfl, hk⟩
                have HZ' := Lib.hid (show Have [(L, vec (minR a b)), (M, vec (maxR a b)), (A, la), (B, lb), (C, lc)] w w11 from HZ.out.fresh hk)
                clear hk HZ
                have HZ := HZ'
                clear HZ'
                go_wp2_with (fail)
                refine (Covers_r (HZ.out.nth 2 rfl) (HZ.out.nth 4 rfl) (HSA.out) (HSC.out)).mono ?_
                rw [cov_trans Hp.out Hq.out]
                rintro e w12 ⟨rfl, hk⟩
                have HZ' := Lib.hid (show Have [(L, vec (minR a b)), (M, vec (maxR a b)), (A, la), (B, lb), (C, lc)] w w12 from HZ.out.fresh hk)
                clear hk HZ
                have HZ := HZ'
                clear HZ'
                go_wp2_with (fail)
                refine (Covers_r (HZ.out.nth 2 rfl) (HZ.out.nth 3 rfl) (HSA.out) (HSB.out)).mono ?_
                rw [Hp.out]
                rintro e w13 ⟨rfl, hk⟩
                have HZ' := Lib.hid (show Have [(L, vec (minR a b)), (M, vec (maxR a b)), (A, la), (B, lb), (C, lc)] w w13 from HZ.out.fresh hk)
                clear hk HZ
                have HZ := HZ'
                clear HZ'
                go_wp2_with (fail)
                refine (Covers_r (HZ.out.nth 3 rfl) (HZ.out.nth 2 rfl) (HSB.out) (HSA.out)).mono ?_
                rw [Hr.out]
                rintro e w14 ⟨rfl, hk⟩
                have HZ' := Lib.hid (show Have [(L, vec (minR a b)), (M, vec (maxR a b)), (A, la), (B, lb), (C, lc)] w w14 from HZ.out.fresh hk)
                clear hk HZ
                have HZ := HZ'
                clear HZ'
                go_wp2_with (fail)
                refine (Covers_r (HZ.out.nth 2 rfl) (HZ.out.nth 3 rfl) (HSA.out) (HSB.out)).mono ?_
                rw [Hp.out]
                rintro e w15 ⟨rfl, hk⟩
                have HZ' := Lib.hid (show Have [(L, vec (minR a b)), (M, vec (maxR a b)), (A, la), (B, lb), (C, lc)] w w15 from HZ.out.fresh hk)
                clear hk HZ
                have HZ := HZ'
                clear HZ'
                go_wp2_with (fail)
                refine (Merge_r (HZ.out.nth 2 rfl) DotsAt.nil (HSA.out) Sy.nil).mono ?_
                rintro e w16 hf
                obtain ⟨M3, cM3, rfl, hd, hk⟩ := hf.at
                clear hf
                have HZ' := Lib.hid (show Have [(M3, vec (maxR a row0)), (L, vec (minR a b)), (M, vec (maxR a b)), (A, la), (B, lb), (C, lc)] w w16 from (HZ.out.fresh hk).add hd)
                clear hk HZ hd
                have HZ := HZ'
                clear HZ'
                go_wp2_with (fail)
                refine (Same_any _ _ _ _ _ _ _ (HZ.out.nth 2 rfl) (HZ.out.nth 0 rfl) (Sy.vec (HRA.out.maxR HRB.out)).len).mono ?_
                rw [← cov_same HRA.out HRB.out, Hp.out]
                rintro e w17 ⟨rfl, hk⟩
                have HZ' := Lib.hid (show Have [(M3, vec (maxR a row0)), (L, vec (minR a b)), (M, vec (maxR a b)), (A, la), (B, lb), (C, lc)] w w17 from HZ.out.fresh hk)
                clear hk HZ
                have HZ := HZ'
                clear HZ'
                go_wp2
                go_meet
                case rel => exact ⟨rfl, HZ.out.less (by simp)⟩
              | true => as_aux_lemma =>
                have Hr := Lib.hid hr
                clear hr
                go_wp2_with (fail)
                refine (Covers_r (HZ.out.nth 2 rfl) (HZ.out.nth 3 rfl) (HSA.out) (HSB.out)).mono ?_
                rw [Hp.out]
                rintro e w10 ⟨rfl, hk⟩
                have HZ' := Lib.hid (show Have [(L, vec (minR a b)), (M, vec (maxR a b)), (A, la), (B, lb), (C, lc)] w w10 from HZ.out.fresh hk)
                clear hk HZ
                have HZ := HZ'
                clear HZ'
                go_wp2_with (fail)
                refine (Covers_r (HZ.out.nth 3 rfl) (HZ.out.nth 4 rfl) (HSB.out) (HSC.out)).mono ?_
                rw [Hq.out]
                rintro e w11 ⟨rfl, hk⟩
                have HZ' := Lib.hid (show Have [(L, vec (minR a b)), (M, vec (maxR a b)), (A, la), (B, lb), (C, lc)] w w11 from HZ.out.fresh hk)
                clear hk HZ
                have HZ := HZ'
                clear HZ'
                go_wp2_with (fail)
                refine (Covers_r (HZ.out.nth 2 rfl) (HZ.out.nth 4 rfl) (HSA.out) (HSC.out)).mono ?_
                rw [cov_trans Hp.out Hq.out]
                rintro e w12 ⟨rfl, hk⟩
                have HZ' := Lib.hid (show Have [(L, vec (minR a b)), (M, vec (maxR a b)), (A, la), (B, lb), (C, lc)] w w12 from HZ.out.fresh hk)
                clear hk HZ
                have HZ := HZ'
                clear HZ'
                go_wp2_with (fail)
                refine (Covers_r (HZ.out.nth 2 rfl) (HZ.out.nth 3 rfl) (HSA.out) (HSB.out)).mono ?_
                rw [Hp.out]
                rintro e w13 ⟨rfl, hk⟩
                have HZ' := Lib.hid (show Have [(L, vec (minR a b)), (M, vec (maxR a b)), (A, la), (B, lb), (C, lc)] w w13 from HZ.out.fresh hk)
                clear hk HZ
                have HZ := HZ'
                clear HZ'
                go_wp2_with (fail)
                refine (Covers_r (HZ.out.nth 3 rfl) (HZ.out.nth 2 rfl) (HSB.out) (HSA.out)).mono ?_
                rw [Hr.out]
                rintro e w14 ⟨rfl, hk⟩
                have HZ' := Lib.hid (show Have [(L, vec (minR a b)), (M, vec (maxR a b)), (A, la), (B, lb), (C, lc)] w w14 from HZ.out.fresh hk)
                clear hk HZ
                have HZ := HZ'
                clear HZ'
                go_wp2_with (fail)
                refine (Merge_r (HZ.out.nth 2 rfl) DotsAt.nil (HSA.out) Sy.nil).mono ?_
                rintro e w15 hf
                obtain ⟨M1, cM1, rfl, hd, hk⟩ := hf.at
                clear hf
                have HZ' := Lib.hid (show Have [(M1, vec (maxR a row0)), (L, vec (minR a b)), (M, vec (maxR a b)), (A, la), (B, lb), (C, lc)] w w15 from (HZ.out.fresh hk).add hd)
                clear hk HZ hd
                have HZ := HZ'
                clear HZ'
                go_wp2_with (fail)
                refine (Merge_r (HZ.out.nth 4 rfl) DotsAt.nil (HSB.out) Sy.nil).mono ?_
                rintro e w16 hf
                obtain ⟨M2, cM2, rfl, hd, hk⟩ := hf.at
                clear hf
                have HZ' := Lib.hid (show Have [(M2, vec (maxR b row0)), (M1, vec (maxR a row0)), (L, vec (minR a b)), (M, vec (maxR a b)), (A, la), (B, lb), (C, lc)] w w16 from (HZ.out.fresh hk).add hd)
                clear hk HZ hd
                have HZ := HZ'
                clear HZ'
                go_wp2_with (fail)
                refine (Same_any _ _ _ _ _ _ _ (HZ.out.nth 1 rfl) (HZ.out.nth 0 rfl) (Sy.vec (HRA.out.maxR Row.row0)).len).mono ?_
                rw [decide_eq_true (by rw [cov_anti HRA.out HRB.out Hp.out Hr.out])]
                rintro e w17 ⟨rfl, hk⟩
                have HZ' := Lib.hid (show Have [(M2, vec (maxR b row0)), (M1, vec (maxR a row0)), (L, vec (minR a b)), (M, vec (maxR a b)), (A, la), (B, lb), (C, lc)] w w17 from HZ.out.fresh hk)
                clear hk HZ
                have HZ := HZ'
                clear HZ'
                go_wp2_with (fail)
                refine (Covers_r (HZ.out.nth 4 rfl) (HZ.out.nth 5 rfl) (HSA.out) (HSB.out)).mono ?_
                rw [Hp.out]
                rintro e w18 ⟨rfl, hk⟩
                have HZ' := Lib.hid (show Have [(M2, vec (maxR b row0)), (M1, vec (maxR a row0)), (L, vec (minR a b)), (M, vec (maxR a b)), (A, la), (B, lb), (C, lc)] w w18 from HZ.out.fresh hk)
                clear hk HZ
                have HZ := HZ'
                clear HZ'
                go_wp2_with (fail)
                refine (Merge_r (HZ.out.nth 4 rfl) DotsAt.nil (HSA.out) Sy.nil).mono ?_
                rintro e w19 hf
                obtain ⟨M3, cM3, rfl, hd, hk⟩ := hf.at
                clear hf
                have HZ' := Lib.hid (show Have [(M3, vec (maxR a row0)), (M2, vec (maxR b row0)), (M1, vec (maxR a row0)), (L, vec (minR a b)), (M, vec (maxR a b)), (A, la), (B, lb), (C, lc)] w w19 from (HZ.out.fresh hk).add hd)
                clear hk HZ hd
                have HZ := HZ'
                clear HZ'
                go_wp2_with (fail)
                refine (Same_any _ _ _ _ _ _ _ (HZ.out.nth 4 rfl) (HZ.out.nth 0 rfl) (Sy.vec (HRA.out.maxR HRB.out)).len).mono ?_
                rw [← cov_same HRA.out HRB.out, Hp.out]
                rintro e w20 ⟨rfl, hk⟩
                have HZ' := Lib.hid (show Have [(M3, vec (maxR a row0)), (M2, vec (maxR b row0)), (M1, vec (maxR a row0)), (L, vec (minR a b)), (M, vec (maxR a b)), (A, la), (B, lb), (C, lc)] w w20 from HZ.out.fresh hk)
                clear hk HZ
                have HZ := HZ'
                clear HZ'
                go_wp2
                go_meet
                case rel => exact ⟨rfl, HZ.out.less (by simp)⟩
        case rest => as_aux_lemma =>
          obtain ⟨rfl, hz⟩ := hcut
          obtain ⟨wq2, rfl⟩ : ∃ wq : World, wq = wc := ⟨_, rfl⟩
          clear HZ
          have HZ := Lib.hid hz
          clear hz
          go_wp2_with (fail)
          refine (Merge_r (HZ.out.nth 3 rfl) (HZ.out.nth 2 rfl) (HSB.out) (HSA.out)).mono ?_
          rintro e w60 hf
          obtain ⟨N1, cN1, rfl, hd, hk⟩ := hf.at
          clear hf
          have HZ' := Lib.hid (show Have [(N1, vec (maxR b a)), (L, vec (minR a b)), (M, vec (maxR a b)), (A, la), (B, lb), (C, lc)] w w60 from (HZ.out.fresh hk).add hd)
          clear hk HZ hd
          have HZ := HZ'
          clear HZ'
          go_wp2_with (fail)
          refine (Same_any _ _ _ _ _ _ _ (HZ.out.nth 2 rfl) (HZ.out.nth 0 rfl) (Sy.vec (HRA.out.maxR HRB.out)).len).mono ?_
          rw [decide_eq_true (congrArg vec max_comm')]
          rintro e w61 ⟨rfl, hk⟩
          have HZ' := Lib.hid (show Have [(N1, vec (maxR b a)), (L, vec (minR a b)), (M, vec (maxR a b)), (A, la), (B, lb), (C, lc)] w w61 from HZ.out.fresh hk)
          clear hk HZ
          have HZ := HZ'
          clear HZ'
          as_aux_lemma =>
            go_wp2_with (fail)
            refine (Least_r (HZ.out.nth 4 rfl) (HZ.out.nth 3 rfl) (HSB.out) (HSA.out)).mono ?_
            rintro e w62 hf
            obtain ⟨N2, cN2, rfl, hd, hk⟩ := hf.at
            clear hf
            have HZ' := Lib.hid (show Have [(N2, vec (minR b a)), (N1, vec (maxR b a)), (L, vec (minR a b)), (M, vec (maxR a b)), (A, la), (B, lb), (C, lc)] w w62 from (HZ.out.fresh hk).add hd)
            clear hk HZ hd
            have HZ := HZ'
            clear HZ'
            go_wp2_with (fail)
            refine (Same_any _ _ _ _ _ _ _ (HZ.out.nth 2 rfl) (HZ.out.nth 0 rfl) (Sy.vec (HRA.out.minR HRB.out)).len).mono ?_
            rw [decide_eq_true (congrArg vec min_comm')]
            rintro e w63 ⟨rfl, hk⟩
            have HZ' := Lib.hid (show Have [(N2, vec (minR b a)), (N1, vec (maxR b a)), (L, vec (minR a b)), (M, vec (maxR a b)), (A, la), (B, lb), (C, lc)] w w63 from HZ.out.fresh hk)
            clear hk HZ
            have HZ := HZ'
            clear HZ'
            as_aux_lemma =>
              go_wp2_with (fail)
              refine (Merge_r (HZ.out.nth 3 rfl) (HZ.out.nth 6 rfl) (Sy.vec (HRA.out.maxR HRB.out)) (HSC.out)).mono ?_
              rintro e w64 hf
              obtain ⟨N3, cN3, rfl, hd, hk⟩ := hf.at
              clear hf
              have HZ' := Lib.hid (show Have [(N3, vec (maxR (maxR a b) c)), (N2, vec (minR b a)), (N1, vec (maxR b a)), (L, vec (minR a b)), (M, vec (maxR a b)), (A, la), (B, lb), (C, lc)] w w64 from (HZ.out.fresh hk).add hd)
              clear hk HZ hd
              have HZ := HZ'
              clear HZ'
              go_wp2_with (fail)
              refine (Merge_r (HZ.out.nth 6 rfl) (HZ.out.nth 7 rfl) (HSB.out) (HSC.out)).mono ?_
              rintro e w65 hf
              obtain ⟨N4, cN4, rfl, hd, hk⟩ := hf.at
              clear hf
              have HZ' := Lib.hid (show Have [(N4, vec (maxR b c)), (N3, vec (maxR (maxR a b) c)), (N2, vec (minR b a)), (N1, vec (maxR b a)), (L, vec (minR a b)), (M, vec (maxR a b)), (A, la), (B, lb), (C, lc)] w w65 from (HZ.out.fresh hk).add hd)
              clear hk HZ hd
              have HZ := HZ'
              clear HZ'
              go_wp2_with (fail)
              refine (Merge_r (HZ.out.nth 6 rfl) (HZ.out.nth 0 rfl) (HSA.out) (Sy.vec (HRB.out.maxR HRC.out))).mono ?_
              rintro e w66 hf
              obtain ⟨N5, cN5, rfl, hd, hk⟩ := hf.at
              clear hf
              have HZ' := Lib.hid (show Have [(N5, vec (maxR a (maxR b c))), (N4, vec (maxR b c)), (N3, vec (maxR (maxR a b) c)), (N2, vec (minR b a)), (N1, vec (maxR b a)), (L, vec (minR a b)), (M, vec (maxR a b)), (A, la), (B, lb), (C, lc)] w w66 from (HZ.out.fresh hk).add hd)
              clear hk HZ hd
              have HZ := HZ'
              clear HZ'
              go_wp2_with (fail)
              refine (Same_any _ _ _ _ _ _ _ (HZ.out.nth 2 rfl) (HZ.out.nth 0 rfl) (Sy.vec ((HRA.out.maxR HRB.out).maxR HRC.out)).len).mono ?_
              rw [decide_eq_true (congrArg vec max_assoc')]
              rintro e w67 ⟨rfl, hk⟩
              have HZ' := Lib.hid (show Have [(N5, vec (maxR a (maxR b c))), (N4, vec (maxR b c)), (N3, vec (maxR (maxR a b) c)), (N2, vec (minR b a)), (N1, vec (maxR b a)), (L, vec (minR a b)), (M, vec (maxR a b)), (A, la), (B, lb), (C, lc)] w w67 from HZ.out.fresh hk)
              clear hk HZ
              have HZ := HZ'
              clear HZ'
              as_aux_lemma =>
                go_wp2_with (fail)
                refine (Least_r (HZ.out.nth 5 rfl) (HZ.out.nth 9 rfl) (Sy.vec (HRA.out.minR HRB.out)) (HSC.out)).mono ?_
                rintro e w68 hf
                obtain ⟨N6, cN6, rfl, hd, hk⟩ := hf.at
                clear hf
                have HZ' := Lib.hid (show Have [(N6, vec (minR (minR a b) c)), (N5, vec (maxR a (maxR b c))), (N4, vec (maxR b c)), (N3, vec (maxR (maxR a b) c)), (N2, vec (minR b a)), (N1, vec (maxR b a)), (L, vec (minR a b)), (M, vec (maxR a b)), (A, la), (B, lb), (C, lc)] w w68 from (HZ.out.fresh hk).add hd)
                clear hk HZ hd
                have HZ := HZ'
                clear HZ'
                go_wp2_with (fail)
                refine (Least_r (HZ.out.nth 9 rfl) (HZ.out.nth 10 rfl) (HSB.out) (HSC.out)).mono ?_
                rintro e w69 hf
                obtain ⟨N7, cN7, rfl, hd, hk⟩ := hf.at
                clear hf
                have HZ' := Lib.hid (show Have [(N7, vec (minR b c)), (N6, vec (minR (minR a b) c)), (N5, vec (maxR a (maxR b c))), (N4, vec (maxR b c)), (N3, vec (maxR (maxR a b) c)), (N2, vec (minR b a)), (N1, vec (maxR b a)), (L, vec (minR a b)), (M, vec (maxR a b)), (A, la), (B, lb), (C, lc)] w w69 from (HZ.out.fresh hk).add hd)
                clear hk HZ hd
                have HZ := HZ'
                clear HZ'
                go_wp2_with (fail)
                refine (Least_r (HZ.out.nth 9 rfl) (HZ.out.nth 0 rfl) (HSA.out) (Sy.vec (HRB.out.minR HRC.out))).mono ?_
                rintro e w70 hf
                obtain ⟨N8, cN8, rfl, hd, hk⟩ := hf.at
                clear hf
                have HZ' := Lib.hid (show Have [(N8, vec (minR a (minR b c))), (N7, vec (minR b c)), (N6, vec (minR (minR a b) c)), (N5, vec (maxR a (maxR b c))), (N4, vec (maxR b c)), (N3, vec (maxR (maxR a b) c)), (N2, vec (minR b a)), (N1, vec (maxR b a)), (L, vec (minR a b)), (M, vec (maxR a b)), (A, la), (B, lb), (C, lc)] w w70 from (HZ.out.fresh hk).add hd)
                clear hk HZ hd
                have HZ := HZ'
                clear HZ'
                go_wp2_with (fail)
                refine (Same_any _ _ _ _ _ _ _ (HZ.out.nth 2 rfl) (HZ.out.nth 0 rfl) (Sy.vec ((HRA.out.minR HRB.out).minR HRC.out)).len).mono ?_
                rw [decide_eq_true (congrArg vec min_assoc')]
                rintro e w71 ⟨rfl, hk⟩
                have HZ' := Lib.hid (show Have [(N8, vec (minR a (minR b c))), (N7, vec (minR b c)), (N6, vec (minR (minR a b) c)), (N5, vec (maxR a (maxR b c))), (N4, vec (maxR b c)), (N3, vec (maxR (maxR a b) c)), (N2, vec (minR b a)), (N1, vec (maxR b a)), (L, vec (minR a b)), (M, vec (maxR a b)), (A, la), (B, lb), (C, lc)] w w71 from HZ.out.fresh hk)
                clear hk HZ
                have HZ := HZ'
                clear HZ'
                as_aux_lemma =>
                  go_wp2_with (fail)
                  refine (Merge_r (HZ.out.nth 8 rfl) (HZ.out.nth 12 rfl) (Sy.vec (HRA.out.minR HRB.out)) (HSC.out)).mono ?_
                  rintro e w72 hf
                  obtain ⟨P1, cP1, rfl, hd, hk⟩ := hf.at
                  clear hf
                  have HZ' := Lib.hid (show Have [(P1, vec (maxR (minR a b) c)), (N8, vec (minR a (minR b c))), (N7, vec (minR b c)), (N6, vec (minR (minR a b) c)), (N5, vec (maxR a (maxR b c))), (N4, vec (maxR b c)), (N3, vec (maxR (maxR a b) c)), (N2, vec (minR b a)), (N1, vec (maxR b a)), (L, vec (minR a b)), (M, vec (maxR a b)), (A, la), (B, lb), (C, lc)] w w72 from (HZ.out.fresh hk).add hd)
                  clear hk HZ hd
                  have HZ := HZ'
                  clear HZ'
                  go_wp2_with (fail)
                  refine (Merge_r (HZ.out.nth 11 rfl) (HZ.out.nth 13 rfl) (HSA.out) (HSC.out)).mono ?_
                  rintro e w73 hf
                  obtain ⟨P2, cP2, rfl, hd, hk⟩ := hf.at
                  clear hf
                  have HZ' := Lib.hid (show Have [(P2, vec (maxR a c)), (P1, vec (maxR (minR a b) c)), (N8, vec (minR a (minR b c))), (N7, vec (minR b c)), (N6, vec (minR (minR a b) c)), (N5, vec (maxR a (maxR b c))), (N4, vec (maxR b c)), (N3, vec (maxR (maxR a b) c)), (N2, vec (minR b a)), (N1, vec (maxR b a)), (L, vec (minR a b)), (M, vec (maxR a b)), (A, la), (B, lb), (C, lc)] w w73 from (HZ.out.fresh hk).add hd)
                  clear hk HZ hd
                  have HZ := HZ'
                  clear HZ'
                  go_wp2_with (fail)
                  refine (Merge_r (HZ.out.nth 13 rfl) (HZ.out.nth 14 rfl) (HSB.out) (HSC.out)).mono ?_
                  rintro e w74 hf
                  obtain ⟨P3, cP3, rfl, hd, hk⟩ := hf.at
                  clear hf
                  have HZ' := Lib.hid (show Have [(P3, vec (maxR b c)), (P2, vec (maxR a c)), (P1, vec (maxR (minR a b) c)), (N8, vec (minR a (minR b c))), (N7, vec (minR b c)), (N6, vec (minR (minR a b) c)), (N5, vec (maxR a (maxR b c))), (N4, vec (maxR b c)), (N3, vec (maxR (maxR a b) c)), (N2, vec (minR b a)), (N1, vec (maxR b a)), (L, vec (minR a b)), (M, vec (maxR a b)), (A, la), (B, lb), (C, lc)] w w74 from (HZ.out.fresh hk).add hd)
                  clear hk HZ hd
                  have HZ := HZ'
                  clear HZ'
                  go_wp2_with (fail)
                  refine (Least_r (HZ.out.nth 1 rfl) (HZ.out.nth 0 rfl) (Sy.vec (HRA.out.maxR HRC.out)) (Sy.vec (HRB.out.maxR HRC.out))).mono ?_
                  rintro e w75 hf
                  obtain ⟨P4, cP4, rfl, hd, hk⟩ := hf.at
                  clear hf
                  have HZ' := Lib.hid (show Have [(P4, vec (minR (maxR a c) (maxR b c))), (P3, vec (maxR b c)), (P2, vec (maxR a c)), (P1, vec (maxR (minR a b) c)), (N8, vec (minR a (minR b c))), (N7, vec (minR b c)), (N6, vec (minR (minR a b) c)), (N5, vec (maxR a (maxR b c))), (N4, vec (maxR b c)), (N3, vec (maxR (maxR a b) c)), (N2, vec (minR b a)), (N1, vec (maxR b a)), (L, vec (minR a b)), (M, vec (maxR a b)), (A, la), (B, lb), (C, lc)] w w75 from (HZ.out.fresh hk).add hd)
                  clear hk HZ hd
                  have HZ := HZ'
                  clear HZ'
                  go_wp2_with (fail)
                  refine (Same_any _ _ _ _ _ _ _ (HZ.out.nth 3 rfl) (HZ.out.nth 0 rfl) (Sy.vec ((HRA.out.minR HRB.out).maxR HRC.out)).len).mono ?_
                  rw [decide_eq_true (congrArg vec max_min')]
                  rintro e w76 ⟨rfl, hk⟩
                  have HZ' := Lib.hid (show Have [(P4, vec (minR (maxR a c) (maxR b c))), (P3, vec (maxR b c)), (P2, vec (maxR a c)), (P1, vec (maxR (minR a b) c)), (N8, vec (minR a (minR b c))), (N7, vec (minR b c)), (N6, vec (minR (minR a b) c)), (N5, vec (maxR a (maxR b c))), (N4, vec (maxR b c)), (N3, vec (maxR (maxR a b) c)), (N2, vec (minR b a)), (N1, vec (maxR b a)), (L, vec (minR a b)), (M, vec (maxR a b)), (A, la), (B, lb), (C, lc)] w w76 from HZ.out.fresh hk)
                  clear hk HZ
                  have HZ := HZ'
                  clear HZ'
                  as_aux_lemma =>
                    go_wp2_with (fail)
                    refine (Least_r (HZ.out.nth 13 rfl) (HZ.out.nth 16 rfl) (Sy.vec (HRA.out.maxR HRB.out)) (HSC.out)).mono ?_
                    rintro e w77 hf
                    obtain ⟨Q1, cQ1, rfl, hd, hk⟩ := hf.at
                    clear hf
                    have HZ' := Lib.hid (show Have [(Q1, vec (minR (maxR a b) c)), (P4, vec (minR (maxR a c) (maxR b c))), (P3, vec (maxR b c)), (P2, vec (maxR a c)), (P1, vec (maxR (minR a b) c)), (N8, vec (minR a (minR b c))), (N7, vec (minR b c)), (N6, vec (minR (minR a b) c)), (N5, vec (maxR a (maxR b c))), (N4, vec (maxR b c)), (N3, vec (maxR (maxR a b) c)), (N2, vec (minR b a)), (N1, vec (maxR b a)), (L, vec (minR a b)), (M, vec (maxR a b)), (A, la), (B, lb), (C, lc)] w w77 from (HZ.out.fresh hk).add hd)
                    clear hk HZ hd
                    have HZ := HZ'
                    clear HZ'
                    go_wp2_with (fail)
                    refine (Least_r (HZ.out.nth 15 rfl) (HZ.out.nth 17 rfl) (HSA.out) (HSC.out)).mono ?_
                    rintro e w78 hf
                    obtain ⟨Q2, cQ2, rfl, hd, hk⟩ := hf.at
                    clear hf
                    have HZ' := Lib.hid (show Have [(Q2, vec (minR a c)), (Q1, vec (minR (maxR a b) c)), (P4, vec (minR (maxR a c) (maxR b c))), (P3, vec (maxR b c)), (P2, vec (maxR a c)), (P1, vec (maxR (minR a b) c)), (N8, vec (minR a (minR b c))), (N7, vec (minR b c)), (N6, vec (minR (minR a b) c)), (N5, vec (maxR a (maxR b c))), (N4, vec (maxR b c)), (N3, vec (maxR (maxR a b) c)), (N2, vec (minR b a)), (N1, vec (maxR b a)), (L, vec (minR a b)), (M, vec (maxR a b)), (A, la), (B, lb), (C, lc)] w w78 from (HZ.out.fresh hk).add hd)
                    clear hk HZ hd
                    have HZ := HZ'
                    clear HZ'
                    go_wp2_with (fail)
                    refine (Least_r (HZ.out.nth 17 rfl) (HZ.out.nth 18 rfl) (HSB.out) (HSC.out)).mono ?_
                    rintro e w79 hf
                    obtain ⟨Q3, cQ3, rfl, hd, hk⟩ := hf.at
                    clear hf
                    have HZ' := Lib.hid (show Have [(Q3, vec (minR b c)), (Q2, vec (minR a c)), (Q1, vec (minR (maxR a b) c)), (P4, vec (minR (maxR a c) (maxR b c))), (P3, vec (maxR b c)), (P2, vec (maxR a c)), (P1, vec (maxR (minR a b) c)), (N8, vec (minR a (minR b c))), (N7, vec (minR b c)), (N6, vec (minR (minR a b) c)), (N5, vec (maxR a (maxR b c))), (N4, vec (maxR b c)), (N3, vec (maxR (maxR a b) c)), (N2, vec (minR b a)), (N1, vec (maxR b a)), (L, vec (minR a b)), (M, vec (maxR a b)), (A, la), (B, lb), (C, lc)] w w79 from (HZ.out.fresh hk).add hd)
                    clear hk HZ hd
                    have HZ := HZ'
                    clear HZ'
                    go_wp2_with (fail)
                    refine (Merge_r (HZ.out.nth 1 rfl) (HZ.out.nth 0 rfl) (Sy.vec (HRA.out.minR HRC.out)) (Sy.vec (HRB.out.minR HRC.out))).mono ?_
                    rintro e w80 hf
                    obtain ⟨Q4, cQ4, rfl, hd, hk⟩ := hf.at
                    clear hf
                    have HZ' := Lib.hid (show Have [(Q4, vec (maxR (minR a c) (minR b c))), (Q3, vec (minR b c)), (Q2, vec (minR a c)), (Q1, vec (minR (maxR a b) c)), (P4, vec (minR (maxR a c) (maxR b c))), (P3, vec (maxR b c)), (P2, vec (maxR a c)), (P1, vec (maxR (minR a b) c)), (N8, vec (minR a (minR b c))), (N7, vec (minR b c)), (N6, vec (minR (minR a b) c)), (N5, vec (maxR a (maxR b c))), (N4, vec (maxR b c)), (N3, vec (maxR (maxR a b) c)), (N2, vec (minR b a)), (N1, vec (maxR b a)), (L, vec (minR a b)), (M, vec (maxR a b)), (A, la), (B, lb), (C, lc)] w w80 from (HZ.out.fresh hk).add hd)
                    clear hk HZ hd
                    have HZ := HZ'
                    clear HZ'
                    go_wp2_with (fail)
                    refine (Same_any _ _ _ _ _ _ _ (HZ.out.nth 3 rfl) (HZ.out.nth 0 rfl) (Sy.vec ((HRA.out.maxR HRB.out).minR HRC.out)).len).mono ?_
                    rw [decide_eq_true (congrArg vec min_max')]
                    rintro e w81 ⟨rfl, hk⟩
                    have HZ' := Lib.hid (show Have [(Q4, vec (maxR (minR a c) (minR b c))), (Q3, vec (minR b c)), (Q2, vec (minR a c)), (Q1, vec (minR (maxR a b) c)), (P4, vec (minR (maxR a c) (maxR b c))), (P3, vec (maxR b c)), (P2, vec (maxR a c)), (P1, vec (maxR (minR a b) c)), (N8, vec (minR a (minR b c))), (N7, vec (minR b c)), (N6, vec (minR (minR a b) c)), (N5, vec (maxR a (maxR b c))), (N4, vec (maxR b c)), (N3, vec (maxR (maxR a b) c)), (N2, vec (minR b a)), (N1, vec (maxR b a)), (L, vec (minR a b)), (M, vec (maxR a b)), (A, la), (B, lb), (C, lc)] w w81 from HZ.out.fresh hk)
                    clear hk HZ
                    have HZ := HZ'
                    clear HZ'
                    as_aux_lemma =>
                      obtain ⟨sM, hsM⟩ : ∃ s, sumR (maxR a b) 17 = s := ⟨_, rfl⟩
                      have hbM := sumR_le (HRA.out.maxR HRB.out) 17
                      rw [hsM] at hbM
                      have HSM' := Lib.hid hsM
                      obtain ⟨hbM, hcM⟩ := hbM
                      obtain ⟨sL, hsL⟩ : ∃ s, sumR (minR a b) 17 = s := ⟨_, rfl⟩
                      have hbL := sumR_le (HRA.out.minR HRB.out) 17
                      rw [hsL] at hbL
                      have HSL' := Lib.hid hsL
                      obtain ⟨hbL, hcL⟩ := hbL
                      obtain ⟨sA, hsA⟩ : ∃ s, sumR (a) 17 = s := ⟨_, rfl⟩
                      have hbA := sumR_le HRA.out 17
                      rw [hsA] at hbA
                      have HSA' := Lib.hid hsA
                      obtain ⟨hbA, hcA⟩ := hbA
                      obtain ⟨sB, hsB⟩ : ∃ s, sumR (b) 17 = s := ⟨_, rfl⟩
                      have hbB := sumR_le HRB.out 17
                      rw [hsB] at hbB
                      have HSB' := Lib.hid hsB
                      obtain ⟨hbB, hcB⟩ := hbB
                      have hsum : sM + sL = sA + sB := by rw [← hsM, ← hsL, ← hsA, ← hsB]; exact sum_lat 17 (Nat.le_refl _)
                      clear hsM hsL hsA hsB
                      have hbeq : (sM + sL == sA + sB) = true := beq_iff_eq.2 hsum
                      clear hsum
                      go_wp2_with (fail)
                      refine (Sum_r (HZ.out.nth 17 rfl) (Sy.vec (HRA.out.maxR HRB.out))).mono ?_
                      rw [HSM'.out]
                      rintro e w82 ⟨rfl, hk⟩
                      have HZ' := Lib.hid (show Have [(Q4, vec (maxR (minR a c) (minR b c))), (Q3, vec (minR b c)), (Q2, vec (minR a c)), (Q1, vec (minR (maxR a b) c)), (P4, vec (minR (maxR a c) (maxR b c))), (P3, vec (maxR b c)), (P2, vec (maxR a c)), (P1, vec (maxR (minR a b) c)), (N8, vec (minR a (minR b c))), (N7, vec (minR b c)), (N6, vec (minR (minR a b) c)), (N5, vec (maxR a (maxR b c))), (N4, vec (maxR b c)), (N3, vec (maxR (maxR a b) c)), (N2, vec (minR b a)), (N1, vec (maxR b a)), (L, vec (minR a b)), (M, vec (maxR a b)), (A, la), (B, lb), (C, lc)] w w82 from HZ.out.fresh hk)
                      clear hk HZ
                      have HZ := HZ'
                      clear HZ'
                      go_wp2_with (fail)
                      refine (Sum_r (HZ.out.nth 16 rfl) (Sy.vec (HRA.out.minR HRB.out))).mono ?_
                      rw [HSL'.out]
                      rintro e w83 ⟨rfl, hk⟩
                      have HZ' := Lib.hid (show Have [(Q4, vec (maxR (minR a c) (minR b c))), (Q3, vec (minR b c)), (Q2, vec (minR a c)), (Q1, vec (minR (maxR a b) c)), (P4, vec (minR (maxR a c) (maxR b c))), (P3, vec (maxR b c)), (P2, vec (maxR a c)), (P1, vec (maxR (minR a b) c)), (N8, vec (minR a (minR b c))), (N7, vec (minR b c)), (N6, vec (minR (minR a b) c)), (N5, vec (maxR a (maxR b c))), (N4, vec (maxR b c)), (N3, vec (maxR (maxR a b) c)), (N2, vec (minR b a)), (N1, vec (maxR b a)), (L, vec (minR a b)), (M, vec (maxR a b)), (A, la), (B, lb), (C, lc)] w w83 from HZ.out.fresh hk)
                      clear hk HZ
                      have HZ := HZ'
                      clear HZ'
                      go_wp2_with (fail)
                      refine (Sum_r (HZ.out.nth 18 rfl) (HSA.out)).mono ?_
                      rw [HSA'.out]
                      rintro e w84 ⟨rfl, hk⟩
                      have HZ' := Lib.hid (show Have [(Q4, vec (maxR (minR a c) (minR b c))), (Q3, vec (minR b c)), (Q2, vec (minR a c)), (Q1, vec (minR (maxR a b) c)), (P4, vec (minR (maxR a c) (maxR b c))), (P3, vec (maxR b c)), (P2, vec (maxR a c)), (P1, vec (maxR (minR a b) c)), (N8, vec (minR a (minR b c))), (N7, vec (minR b c)), (N6, vec (minR (minR a b) c)), (N5, vec (maxR a (maxR b c))), (N4, vec (maxR b c)), (N3, vec (maxR (maxR a b) c)), (N2, vec (minR b a)), (N1, vec (maxR b a)), (L, vec (minR a b)), (M, vec (maxR a b)), (A, la), (B, lb), (C, lc)] w w84 from HZ.out.fresh hk)
                      clear hk HZ
                      have HZ := HZ'
                      clear HZ'
                      go_wp2_with (fail)
                      refine (Sum_r (HZ.out.nth 19 rfl) (HSB.out)).mono ?_
                      rw [HSB'.out]
                      rintro e w85 ⟨rfl, hk⟩
                      have HZ' := Lib.hid (show Have [(Q4, vec (maxR (minR a c) (minR b c))), (Q3, vec (minR b c)), (Q2, vec (minR a c)), (Q1, vec (minR (maxR a b) c)), (P4, vec (minR (maxR a c) (maxR b c))), (P3, vec (maxR b c)), (P2, vec (maxR a c)), (P1, vec (maxR (minR a b) c)), (N8, vec (minR a (minR b c))), (N7, vec (minR b c)), (N6, vec (minR (minR a b) c)), (N5, vec (maxR a (maxR b c))), (N4, vec (maxR b c)), (N3, vec (maxR (maxR a b) c)), (N2, vec (minR b a)), (N1, vec (maxR b a)), (L, vec (minR a b)), (M, vec (maxR a b)), (A, la), (B, lb), (C, lc)] w w85 from HZ.out.fresh hk)
                      clear hk HZ
                      have HZ := HZ'
                      clear HZ'
                      go_wp2_with (fail)
                      refine (known_any _).mono ?_
                      rintro e w86 ⟨rfl, hk⟩
                      have HF := Lib.hid (HZ.out.fresh hk)
                      clear hk HZ
                      go_wp2
                      go_ret
                      exact ⟨rfl, HF.out.2⟩
end Go.Proofs.Ytlefbnnlcacheaa
