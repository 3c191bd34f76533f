/- FairMost walked. Conditions: the lists lie in memory; the last step is an int. -/
import Derived.Test.YtkekhnohehhljaaETwo
import Derived.BigQuiet
namespace Go.Proofs.Ytkekhnohehhljaa
open Go Go.Shelf Go.RowKit Go.Lib Go.Sort

theorem Cuts.snoc {F : Int → Int → Prop} {lim u : Int} (hu : u ≤ lim) : ∀ {cs : List Int} {s : Int}, Cuts F lim s cs → F (cs.getLastD s) u → Cuts F lim s (cs ++ [u])
  | [], _, _, hf => ⟨hu, hf, trivial⟩
  | c :: cs, s, h, hf => ⟨h.1, h.2.1, Cuts.snoc hu h.2.2 (by rwa [List.getLastD_cons] at hf)⟩
theorem last_snoc (cs : List Int) (u s : Int) : (cs ++ [u]).getLastD s = u := by simp

set_option maxRecDepth 100000 in
set_option maxHeartbeats 4000000 in
theorem Most_walk (AE AL AC : Option Addr) (es : List Ev) (live cuts : List Int) (cE cL cC : Nat) (s lim : Int) (w : World) (hE : CellsAt w AE (evs es)) (hL : CellsAt w AL (ints live)) (hC : CellsAt w AC (ints cuts)) (hlim : lim ≤ 9223372036854775807) :
    Calls Try.prog 5 #[.slice AE es.length cE, .slice AL live.length cL, .int .i64 s, .int .i64 lim, .slice AC cuts.length cC] w fun r w' => r = .returned (.bool true) ∧ Kept (fun _ => False) w w' := by
  have HE := Lib.hid hE
  have HL := Lib.hid hL
  have HC := Lib.hid hC
  have HLIM := Lib.hid hlim
  have HAW := Lib.hid (fun W => Awake_any W)
  clear hE hL hlim hC
  go_enter Try.func5, Try.ntmps5
  go_wp2_with (fail)
  refine (large_any AE AL es.length cE live.length cL w).mono ?_
  rintro r w1 ⟨rfl, hw1⟩
  subst hw1
  obtain ⟨bb, hbb⟩ : ∃ bb, (decide (300 < es.length) || decide (40 < live.length)) = bb := ⟨_, rfl⟩
  rw [hbb]
  have HBB := Lib.hid hbb
  clear hbb
  obtain ⟨K, hK⟩ : ∃ K, cuts.length = K := ⟨_, rfl⟩
  have HKK := Lib.hid hK
  rw [hK]
  clear hK
  cases bb with
  | true =>
    as_aux_lemma =>
    go_wp2_with (fail)
    refine (HAW.out _).mono ?_
    rintro r w2 ⟨rfl, hk⟩
    have HK := Lib.hid hk
    clear hk
    go_wp2_with (fail)
    go_ret
    exact ⟨rfl, HK.out⟩
  | false =>
  by_cases h60 : 60 < K
  · as_aux_lemma =>
    have h60' : (K : Int) > 60 := by omega
    go_wp2_with (fail)
    refine (HAW.out _).mono ?_
    rintro r w2 ⟨rfl, hk⟩
    have HK := Lib.hid hk
    clear hk
    go_wp2_with (fail)
    go_ret
    exact ⟨rfl, HK.out⟩
  · as_aux_lemma =>
    have h60' : ¬ (K : Int) > 60 := by omega
    have hb := HBB.out
    simp only [Bool.or_eq_false_iff, decide_eq_false_iff_not, Nat.not_lt] at hb
    have HB := Lib.hid hb
    have HW := Lib.hid (Windows_any AE AL es live cE cL s lim w1 HE.out HL.out (by omega) (by omega) HLIM.out)
    obtain ⟨N, hN⟩ : ∃ N, live.length = N := ⟨_, rfl⟩
    obtain ⟨E, hE⟩ : ∃ E, es.length = E := ⟨_, rfl⟩
    have HN := Lib.hid hN
    have HEE := Lib.hid hE
    rw [hN, hE] at HW ⊢
    clear hb HBB hN hE
    go_wp2_with (fail)
    refine HW.out.mono ?_
    rintro r w2 ⟨W, A, c, rfl, hw, hwl, ho, hk⟩
    have HWS := Lib.hid hw
    have HK := Lib.hid hk
    have HWL := Lib.hid hwl
    obtain ⟨n, hn⟩ : ∃ n, W.length = n := ⟨_, rfl⟩
    have HNN := Lib.hid hn
    rw [hn] at hwl ⊢
    have hn300 : n ≤ 300 := by have := HB.out; omega
    clear hw ho hk hn HW hwl
    obtain ⟨wo, hwo⟩ : ∃ wo : World, wo = w2 := ⟨_, rfl⟩
    subst hwo
    have HKW := Lib.hid (Kept.refl (fun _ => False) wo)
    go_wp2_with (fail)
    go_loopw [12, 13] (fun v i wx => ∃ (m : Nat) (fd : Bool), v = .bool fd ∧ i = .int .i64 m ∧ 1 ≤ m ∧ (fd = true ↔ TwoTo live m) ∧ ∃ q, wx = wo.drewN q) (fun _ i _ => N - (intOf i).toNat)
    case atStart => exact ⟨1, false, rfl, rfl, Nat.le_refl _, by simp [TwoTo.one], 0, rfl⟩
    case round =>
      obtain ⟨m, fd, rfl, rfl, hm1, hfd, q, hq⟩ := hrel
      have HFD := Lib.hid hfd
      have HQ := Lib.hid hq
      have HKR := Lib.hid (show Kept (fun _ => False) wo wr from hq ▸ (HKW.out.drewN q))
      clear hfd hq
      have hN41 : N ≤ 40 := by have := HB.out.2; rwa [HN.out] at this
      by_cases hlm : m < N
      · have hin2 : (m : Int) < (N : Int) := by omega
        cases fd with
        | true =>
          as_aux_lemma =>
          go_upto_region 8 with (fail)
          go_quiet (fail)
          go_wp2_with (fail)
          go_roundw
          case rel => exact ⟨m + 1, true, rfl, by go_num, by omega, by simp [(TwoTo.step (l := live) (k := m) (by rw [HN.out]; exact hlm)), HFD.out.1 rfl], q + nq, by rw [HQ.out]; exact dd _ _ _⟩
          case measure => simp [intOf]; omega
        | false =>
          as_aux_lemma =>
          obtain ⟨b, f, rfl, hc⟩ := ints_cell HL.out (by rw [HN.out]; omega)
          have hml : m < live.length := by rw [HN.out]; exact hlm
          have c1 := HKR.out.cellF (HK.out.cellF (hc m hml))
          have c2 := HKR.out.cellF (HK.out.cellF (hc 0 (by omega)))
          rw [← getD_cell hml] at c1
          rw [← getD_cell (by omega : 0 < live.length), Nat.add_zero] at c2
          obtain ⟨x, hx⟩ : ∃ x, live.getD m 0 = x := ⟨_, rfl⟩
          obtain ⟨y, hy⟩ : ∃ y, live.getD 0 0 = y := ⟨_, rfl⟩
          rw [hx] at c1
          rw [hy] at c2
          have HX := Lib.hid hx
          have HY := Lib.hid hy
          clear hx hy hc
          go_upto_region 8 with (fail)
          go_quiet (fail)
          go_wp2_with (fail)
          go_roundw
          case rel => exact ⟨m + 1, _, rfl, by go_num, by omega, by rw [TwoTo.step (l := live) (k := m) hml, HX.out, HY.out]; simp [show ¬ TwoTo live m from fun h => by cases HFD.out.2 h], q + nq, by rw [HQ.out]; exact dd _ _ _⟩
          case measure => simp [intOf]; omega
      · have hin2 : ¬ (m : Int) < (N : Int) := by omega
        have htw := HFD.out
        rw [two_to live (by rw [HN.out]; omega)] at htw
        have HTW := Lib.hid htw
        clear htw HFD
        obtain ⟨w4, hw4⟩ : ∃ w4 : World, w4 = wr := ⟨_, rfl⟩
        subst hw4
        cases fd with
        | false =>
          as_aux_lemma =>
          go_wp2_with (fail)
          go_loopw [14, 15, 16] (fun _ j i wx => j = .int .i64 0 ∧ i = .int .i64 0 ∧ wx = w4) (fun _ _ _ _ => 0)
          case atStart => exact ⟨rfl, rfl, rfl⟩
          case round =>
            obtain ⟨rfl, rfl, hq⟩ := hrel
            have HQ4 := Lib.hid (hq ▸ HKR.out)
            clear hq
            by_cases hk0 : 0 < K
            · have hk1 : (0 : Int) < (K : Int) := by omega
              have hn1 : (0 : Int) ≤ (n : Int) := by omega
              go_wp2_with (fail)
              refine (HAW.out _).mono ?_
              rintro r w5 ⟨rfl, hk5⟩
              have HK5 := Lib.hid hk5
              clear hk5
              go_wp2_with (fail)
              go_ret
              exact ⟨rfl, (HK.out.trans HQ4.out fun _ _ e => e).trans HK5.out fun _ _ e => e⟩
            · have hk1 : ¬ (0 : Int) < (K : Int) := by omega
              have hn1 : (0 : Int) ≤ (n : Int) := by omega
              go_wp2_with (fail)
              refine (HAW.out _).mono ?_
              rintro r w5 ⟨rfl, hk5⟩
              have HK5 := Lib.hid hk5
              clear hk5
              go_wp2_with (fail)
              go_ret
              exact ⟨rfl, (HK.out.trans HQ4.out fun _ _ e => e).trans HK5.out fun _ _ e => e⟩
        | true =>
          as_aux_lemma =>
          have HCH := Lib.hid (HWS.out.1 (HTW.out.1 rfl))
          go_wp2_with (fail)
          go_loopw [14, 15, 16] (fun a j i wx => ∃ (k : Nat) (cs : List Int) (t : Int), i = .int .i64 k ∧ k ≤ K ∧ cs.length ≤ k ∧ j = .int .i64 cs.length ∧ a = .int .i64 t ∧ t = cs.getLastD (max 0 s) ∧ Cuts (Fit es live) lim (max 0 s) cs ∧ Kept (fun _ => False) wo wx) (fun _ _ i _ => K - (intOf i).toNat)
          case atStart => exact ⟨0, [], max 0 s, rfl, Nat.zero_le _, Nat.le_refl _, rfl, rfl, rfl, trivial, HKR.out⟩
          case round =>
            obtain ⟨k, cs, t, rfl, hk, hcl, rfl, rfl, ht, hcu, hkw⟩ := hrel
            have HT := Lib.hid ht
            have HCU := Lib.hid hcu
            have HKX := Lib.hid hkw
            obtain ⟨jn, hj⟩ : ∃ jn, cs.length = jn := ⟨_, rfl⟩
            rw [hj] at hcl ⊢
            have HJ := Lib.hid hj
            clear ht hcu hkw hj
            by_cases hlk : k < K
            · have hin3 : (k : Int) < (K : Int) := by omega
              have hkl : k < cuts.length := by rw [HKK.out]; exact hlk
              obtain ⟨b, f, rfl, hc⟩ := ints_cell HC.out (by rw [HKK.out]; omega)
              have c1 := HKX.out.cellF (HK.out.cellF (hc k hkl))
              obtain ⟨u, hu⟩ : ∃ u, cuts[k] = u := ⟨_, rfl⟩
              rw [hu] at c1
              clear hc hu
              by_cases g1 : u > t
              · by_cases g2 : u ≤ lim
                · obtain ⟨fb, hfb⟩ : ∃ fb, fitsB es live t u = fb := ⟨_, rfl⟩
                  have H1 := Lib.hid (fits_kept AE AL es live cE cL t u wr ((HE.out.fresh HK.out).fresh HKX.out) ((HL.out.fresh HK.out).fresh HKX.out) (by have := HB.out; omega) (by have := HB.out; omega))
                  rw [hfb, HN.out, HEE.out] at H1
                  have HFB := Lib.hid hfb
                  clear hfb
                  go_wp2_with (fail)
                  refine H1.out.mono ?_
                  rintro r w5 ⟨rfl, hk5⟩
                  have HK5 := Lib.hid (HKX.out.trans hk5 fun _ _ e => e)
                  have c2 := hk5.cellF c1
                  clear hk5 c1
                  cases fb with
                  | true =>
                    have hcw : IntKind.i64.wrap ((jn : Int) + 1) = (jn : Int) + 1 := IntWalk.i64_in _ ⟨by omega, by omega⟩
                    go_wp2_with (fail)
                    go_roundw
                    case rel => exact ⟨k + 1, cs ++ [u], u, by go_num, by omega, by rw [List.length_append, HJ.out]; simp; omega, by rw [List.length_append, HJ.out]; rfl, rfl, (last_snoc _ _ _).symm, HCU.out.snoc g2 (by rw [← HT.out]; exact (fitsB_iff _ _ _ _).1 HFB.out), HK5.out⟩
                    case measure => simp [intOf]; omega
                  | false =>
                    go_wp2_with (fail)
                    go_roundw
                    case rel => exact ⟨k + 1, cs, t, by go_num, by omega, by rw [HJ.out]; omega, by rw [HJ.out], rfl, HT.out, HCU.out, HK5.out⟩
                    case measure => simp [intOf]; omega
                · go_wp2_with (fail)
                  go_roundw
                  case rel => exact ⟨k + 1, cs, t, by go_num, by omega, by rw [HJ.out]; omega, by rw [HJ.out], rfl, HT.out, HCU.out, HKX.out⟩
                  case measure => simp [intOf]; omega
              · go_wp2_with (fail)
                go_roundw
                case rel => exact ⟨k + 1, cs, t, by go_num, by omega, by rw [HJ.out]; omega, by rw [HJ.out], rfl, HT.out, HCU.out, HKX.out⟩
                case measure => simp [intOf]; omega
            · have hin3 : ¬ (k : Int) < (K : Int) := by omega
              have hle : jn ≤ n := by
                rw [← HJ.out, ← HNN.out]
                exact Cuts.le (fun _ _ _ _ h1 h2 h => Fit.mono_all _ _ _ _ h1 h2 h) (Int.le_refl _) HCU.out HCH.out
              have hle2 : (jn : Int) ≤ (n : Int) := by omega
              clear hle
              go_wp2_with (fail)
              refine (HAW.out _).mono ?_
              rintro r w5 ⟨rfl, hk5⟩
              have HK5 := Lib.hid hk5
              clear hk5
              go_wp2_with (fail)
              go_ret
              exact ⟨rfl, (HK.out.trans HKX.out fun _ _ e => e).trans HK5.out fun _ _ e => e⟩
end Go.Proofs.Ytkekhnohehhljaa
