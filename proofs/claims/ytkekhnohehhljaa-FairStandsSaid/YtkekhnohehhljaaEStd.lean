/- FairStands walked. Conditions: the lists lie in memory; the last step is an int. -/
import Derived.Test.YtkekhnohehhljaaETwo
import Derived.BigQuiet
namespace Go.Proofs.Ytkekhnohehhljaa
open Go Go.Shelf Go.RowKit Go.Lib Go.Sort

set_option maxRecDepth 100000 in
set_option maxHeartbeats 4000000 in
theorem Stands_walk (AE AL : Option Addr) (es : List Ev) (live : List Int) (cE cL : Nat) (s lim : Int) (w : World) (hE : CellsAt w AE (evs es)) (hL : CellsAt w AL (ints live)) (hlim : lim ≤ 9223372036854775807) :
    Calls Try.prog 4 #[.slice AE es.length cE, .slice AL live.length cL, .int .i64 s, .int .i64 lim] w fun r w' => r = .returned (.bool true) ∧ Kept (fun _ => False) w w' := by
  have HE := Lib.hid hE
  have HL := Lib.hid hL
  have HLIM := Lib.hid hlim
  have HAW := Lib.hid (fun W => Awake_any W)
  clear hE hL hlim
  go_enter Try.func4, Try.ntmps4
  go_wp2_with (fail)
  refine (large_any AE AL es.length cE live.length cL w).mono ?_
  rintro r w1 ⟨rfl, hw1⟩
  subst hw1
  obtain ⟨bb, hbb⟩ : ∃ bb, (decide (300 < es.length) || decide (40 < live.length)) = bb := ⟨_, rfl⟩
  rw [hbb]
  have HBB := Lib.hid hbb
  clear hbb
  cases bb with
  | true =>
    as_aux_lemma =>
    go_wp2_with (fail)
    refine (HAW.out _).mono ?_
    rintro r w2 ⟨rfl, hk⟩
    have HK := Lib.hid hk
    clear hk
    go_wp2_with (fail)
    go_ret
    exact ⟨rfl, HK.out⟩
  | false =>
    as_aux_lemma =>
    have hb := HBB.out
    simp only [Bool.or_eq_false_iff, decide_eq_false_iff_not, Nat.not_lt] at hb
    have HB := Lib.hid hb
    have HW := Lib.hid (Windows_any AE AL es live cE cL s lim w1 HE.out HL.out (by omega) (by omega) HLIM.out)
    obtain ⟨N, hN⟩ : ∃ N, live.length = N := ⟨_, rfl⟩
    obtain ⟨E, hE⟩ : ∃ E, es.length = E := ⟨_, rfl⟩
    have HN := Lib.hid hN
    have HEE := Lib.hid hE
    rw [hN, hE] at HW ⊢
    clear hb HBB hN hE
    go_wp2_with (fail)
    refine HW.out.mono ?_
    rintro r w2 ⟨W, A, c, rfl, hw, hwl, ho, hk⟩
    have HWS := Lib.hid hw
    have HCW := Lib.hid (CellsAt.of_own ho)
    have HK := Lib.hid hk
    have HWL := Lib.hid hwl
    obtain ⟨n, hn⟩ : ∃ n, W.length = n := ⟨_, rfl⟩
    have HNN := Lib.hid hn
    rw [hn] at hwl ⊢
    have hn300 : n ≤ 300 := by have := HB.out; omega
    clear hw ho hk hn HW hwl
    go_wp2_with (fail)
    go_loopw [10, 11] (fun a i wr => ∃ (k : Nat) (t : Int), i = .int .i64 k ∧ k ≤ n ∧ a = .int .i64 t ∧ 0 ≤ t ∧ Kept (fun _ => False) w2 wr ∧ (Two live → Chain (Fit es live) lim t (W.drop k))) (fun _ i _ => n - (intOf i).toNat)
    case atStart => exact ⟨0, max 0 s, rfl, Nat.zero_le _, rfl, by omega, Kept.refl _ _, fun h => HWS.out.1 h⟩
    case round =>
      obtain ⟨k, t, rfl, hk, rfl, ht, hkw, hch⟩ := hrel
      have HKW := Lib.hid hkw
      have HCH := Lib.hid hch
      clear hkw hch
      by_cases hlt : k < n
      · as_aux_lemma =>
        have hin : (k : Int) < (n : Int) := by omega
        have hkl : k < W.length := by rw [HNN.out]; exact hlt
        obtain ⟨g1, g2, g3, g4, g5⟩ := Chain.at_ hkl (HCH.out (HWS.out.two_of (by omega)))
        obtain ⟨b, f, rfl, hc⟩ := wcs_cell HCW.out (by omega)
        obtain ⟨x1, x2⟩ := hc k hkl
        rw [g1] at x1
        obtain ⟨g, hg⟩ : ∃ g, W[k].2 = g := ⟨_, rfl⟩
        rw [hg] at x2 g2 g3 g4 g5
        have HG5 := Lib.hid g5
        have hf1 := (fitsB_iff es live t g).2 g3
        have hf2 : fitsB es live t (g - 1) = false := Bool.eq_false_iff.2 fun h => g4 (g - 1) (by omega) ((fitsB_iff es live t (g - 1)).1 h)
        have hgt : ¬ g ≤ t := by have := g3.1; omega
        have hlg : ¬ g > lim := by omega
        have hw1 : IntKind.i64.wrap (g - 1) = g - 1 := IntWalk.i64_in _ ⟨by omega, by have := HLIM.out; omega⟩
        have z1 := HKW.out.cellF x1
        have z2 := HKW.out.cellF x2
        have H1 := Lib.hid (fun W (h : Kept (fun _ => False) wr W) => fits_kept AE AL es live cE cL t g W (((HE.out.fresh HK.out).fresh HKW.out).fresh h) (((HL.out.fresh HK.out).fresh HKW.out).fresh h) (by have := HB.out; omega) (by have := HB.out; omega))
        have H2 := Lib.hid (fun W (h : Kept (fun _ => False) wr W) => fits_kept AE AL es live cE cL t (g - 1) W (((HE.out.fresh HK.out).fresh HKW.out).fresh h) (((HL.out.fresh HK.out).fresh HKW.out).fresh h) (by have := HB.out; omega) (by have := HB.out; omega))
        rw [hf1, HN.out, HEE.out] at H1
        rw [hf2, HN.out, HEE.out] at H2
        have hne : (t != t) = false := by simp
        clear hc x1 x2 g1 g2 g3 g4 g5 hg hf1 hf2
        go_upto_region 8 with (fail)
        refine wp_region_class (C := fun w' => Kept (fun _ => False) wr w') (by kernel_rfl) (by kernel_rfl) (Kept.refl _ _).drew ?_
        iterate 57
          first | go_big_quiet_skip | (go_big_quiet_want; first | (go_big_quiet_op; go_big_quiet_on) | (apply Exists.intro; refine ⟨fun w' hS => ?_, ?_⟩; (have c1 := hS.cellF z1; have c2 := hS.cellF z2; go_simp; first | rfl | exact ⟨rfl, rfl⟩ | ((with_reducible refine (H1.out _ hS).mono ?_); rintro e w2 ⟨rfl, hk⟩; exact ⟨rfl, hS.trans hk fun _ _ e => e⟩) | ((with_reducible refine (H2.out _ hS).mono ?_); rintro e w2 ⟨rfl, hk⟩; exact ⟨rfl, hS.trans hk fun _ _ e => e⟩)); (try simp only [Act.put, List.setIfInBounds_toArray, List.set_cons_zero, List.set_cons_succ]); go_big_quiet_on))
        refine wpQuiet_nil ?_
        intro w3 hJ
        have HJ3 := Lib.hid (HKW.out.trans hJ fun _ _ e => e)
        have z4 := hJ.cellF z2
        clear hJ z1 z2
        go_wp2_with (fail)
        go_roundw
        case rel => exact ⟨k + 1, g, by go_num, by omega, rfl, by omega, HJ3.out, fun _ => HG5.out⟩
        case measure => simp [intOf]; omega
      · as_aux_lemma =>
        have hin : ¬ (k : Int) < (n : Int) := by omega
        have HEND := Lib.hid (show Two live → Chain (Fit es live) lim t [] from fun h => by
          have := HCH.out h
          rwa [List.drop_eq_nil_of_le (by rw [HNN.out]; omega)] at this)
        obtain ⟨wo, hwo⟩ : ∃ wo : World, wo = wr := ⟨_, rfl⟩
        subst hwo
        clear HCH
        go_wp2_with (fail)
        go_loopw [12, 13] (fun v i wx => ∃ (m : Nat) (fd : Bool), v = .bool fd ∧ i = .int .i64 m ∧ 1 ≤ m ∧ (fd = true ↔ TwoTo live m) ∧ ∃ q, wx = wo.drewN q) (fun _ i _ => N - (intOf i).toNat)
        case atStart => exact ⟨1, false, rfl, rfl, Nat.le_refl _, by simp [TwoTo.one], 0, rfl⟩
        case round =>
          obtain ⟨m, fd, rfl, rfl, hm1, hfd, q, hq⟩ := hrel
          have HFD := Lib.hid hfd
          have HQ := Lib.hid hq
          have HKR := Lib.hid (show Kept (fun _ => False) w2 wr from hq ▸ (HKW.out.drewN q))
          clear hfd hq
          have hN41 : N ≤ 40 := by have := HB.out.2; rwa [HN.out] at this
          by_cases hlm : m < N
          · have hin2 : (m : Int) < (N : Int) := by omega
            cases fd with
            | true =>
              as_aux_lemma =>
              go_upto_region 15 with (fail)
              go_quiet (fail)
              go_wp2_with (fail)
              go_roundw
              case rel => exact ⟨m + 1, true, rfl, by go_num, by omega, by simp [(TwoTo.step (l := live) (k := m) (by rw [HN.out]; exact hlm)), HFD.out.1 rfl], q + nq, by rw [HQ.out]; exact dd _ _ _⟩
              case measure => simp [intOf]; omega
            | false =>
              as_aux_lemma =>
              obtain ⟨b, f, rfl, hc⟩ := ints_cell HL.out (by rw [HN.out]; omega)
              have hml : m < live.length := by rw [HN.out]; exact hlm
              have c1 := HKR.out.cellF (HK.out.cellF (hc m hml))
              have c2 := HKR.out.cellF (HK.out.cellF (hc 0 (by omega)))
              rw [← getD_cell hml] at c1
              rw [← getD_cell (by omega : 0 < live.length), Nat.add_zero] at c2
              obtain ⟨x, hx⟩ : ∃ x, live.getD m 0 = x := ⟨_, rfl⟩
              obtain ⟨y, hy⟩ : ∃ y, live.getD 0 0 = y := ⟨_, rfl⟩
              rw [hx] at c1
              rw [hy] at c2
              have HX := Lib.hid hx
              have HY := Lib.hid hy
              clear hx hy hc
              go_upto_region 15 with (fail)
              go_quiet (fail)
              go_wp2_with (fail)
              go_roundw
              case rel => exact ⟨m + 1, _, rfl, by go_num, by omega, by rw [TwoTo.step (l := live) (k := m) hml, HX.out, HY.out]; simp [show ¬ TwoTo live m from fun h => by cases HFD.out.2 h], q + nq, by rw [HQ.out]; exact dd _ _ _⟩
              case measure => simp [intOf]; omega
          · have hin2 : ¬ (m : Int) < (N : Int) := by omega
            have htw := HFD.out
            rw [two_to live (by rw [HN.out]; omega)] at htw
            cases fd with
            | true =>
              as_aux_lemma =>
              have hnf : fitsB es live t lim = false := Bool.eq_false_iff.2 fun h => HEND.out (htw.1 rfl) lim (Int.le_refl _) ((fitsB_iff es live t lim).1 h)
              have H1 := Lib.hid (fits_kept AE AL es live cE cL t lim wr ((HE.out.fresh HK.out).fresh HKR.out) ((HL.out.fresh HK.out).fresh HKR.out) (by have := HB.out; omega) (by have := HB.out; omega))
              rw [hnf, HN.out, HEE.out] at H1
              clear hnf htw
              go_wp2_with (fail)
              refine H1.out.mono ?_
              rintro r w4 ⟨rfl, hk4⟩
              have HK4 := Lib.hid hk4
              clear hk4
              go_wp2_with (fail)
              refine (HAW.out _).mono ?_
              rintro r w5 ⟨rfl, hk5⟩
              have HK5 := Lib.hid hk5
              clear hk5
              go_wp2_with (fail)
              go_ret
              exact ⟨rfl, ((HK.out.trans HKR.out fun _ _ e => e).trans HK4.out fun _ _ e => e).trans HK5.out fun _ _ e => e⟩
            | false =>
              as_aux_lemma =>
              have hn0 : n = 0 := by
                have := HWS.out.2 fun h => by cases htw.2 h
                rw [← HNN.out, this]
                rfl
              subst hn0
              clear htw
              go_wp2_with (fail)
              refine (HAW.out _).mono ?_
              rintro r w5 ⟨rfl, hk5⟩
              have HK5 := Lib.hid hk5
              clear hk5
              go_wp2_with (fail)
              go_ret
              exact ⟨rfl, (HK.out.trans HKR.out fun _ _ e => e).trans HK5.out fun _ _ e => e⟩
end Go.Proofs.Ytkekhnohehhljaa
