/- The walk of FrontOwn: it is true. Conditions: the script, the members and the vector lie in memory. -/
import Derived.Test.YthlejmpeigfdgaaFFour
namespace Go.Proofs.Ythlejmpeigfdgaa
open Go Go.RowKit

set_option maxRecDepth 100000 in
set_option maxHeartbeats 25600000 in
theorem Own_walk (A B C : Option Addr) (c d e : Nat) (l : List Stf) (ms : List Int) (own : List Dt) (w : World) (h : ScfAt w A l) (hB : IntsAt w B ms) (hC : DotsAt w C own) (hw : ∀ m ∈ ms, (Lit.int .i64 m).wf = true) (hl : l.length ≤ 4611686018427387904) (hm : ms.length ≤ 4611686018427387904) (ho : own.length ≤ 4611686018427387904) :
    Calls Try.prog 8 #[.slice A l.length c, .slice B ms.length d, .slice C own.length e] w (KnownPost w) := by
  have HSC := Lib.hid h
  have HMS := Lib.hid hB
  have HOW := Lib.hid hC
  have HWF := Lib.hid hw
  clear h hB hC hw
  go_enter Try.func8, Try.ntmps8
  go_wp2_with (fail)
  refine (Much14_any A l c w HSC.out.steps hl).mono ?_
  rintro r w1 ⟨rfl, hk⟩
  have HA1 := Lib.hid hk
  clear hk
  obtain ⟨bm, hbm⟩ : ∃ bm, muchF l = bm := ⟨_, rfl⟩
  rw [hbm]
  have HBM := Lib.hid hbm
  clear hbm
  cases bm with
  | true =>
    as_aux_lemma =>
    go_wp2_with (fail)
    refine (Known14_any w1).mono ?_
    rintro r wk ⟨rfl, hk⟩
    have HKF := Lib.hid (HA1.out.trans hk fun _ _ e => e)
    clear hk
    go_wp2_with (fail)
    go_ret
    exact ⟨rfl, HKF.out⟩
  | false =>
  obtain ⟨hok, hll⟩ := HSC.out.ok HBM.out
  have HOK := Lib.hid hok
  clear hok HBM hl
  by_cases hlb : 40 < ms.length
  · as_aux_lemma =>
    have hlb' : (40 : Int) < (ms.length : Int) := by omega
    go_wp2_with (fail)
    refine (Known14_any w1).mono ?_
    rintro r wk ⟨rfl, hk⟩
    have HKF := Lib.hid (HA1.out.trans hk fun _ _ e => e)
    clear hk
    go_wp2_with (fail)
    go_ret
    exact ⟨rfl, HKF.out⟩
  have hlb' : ¬ (40 : Int) < (ms.length : Int) := by omega
  by_cases hlc : 20000 < own.length
  · as_aux_lemma =>
    have hlc' : (20000 : Int) < (own.length : Int) := by omega
    go_wp2_with (fail)
    refine (Known14_any w1).mono ?_
    rintro r wk ⟨rfl, hk⟩
    have HKF := Lib.hid (HA1.out.trans hk fun _ _ e => e)
    clear hk
    go_wp2_with (fail)
    go_ret
    exact ⟨rfl, HKF.out⟩
  have hlc' : ¬ (20000 : Int) < (own.length : Int) := by omega
  go_wp2_with (fail)
  refine (Fob.new w1 w1.heap.size (Nat.le_refl _)).mono ?_
  rintro r w2 ⟨rfl, hn, hk⟩
  have HN2 := Lib.hid ((Fob.ob _ _ _).cut hn)
  have HA2 := Lib.hid (HA1.out.trans hk fun _ _ e => e)
  have HWP := Lib.hid HA1.out.size
  have HPS := Lib.hid hk.size
  clear hn hk HA1
  obtain ⟨p, hp⟩ : ∃ p, w1.heap.size = p := ⟨_, rfl⟩
  rw [hp] at HN2 HWP HPS ⊢
  clear hp
  go_wp2_with (fail)
  refine (Fob.new w2 w2.heap.size (Nat.le_refl _)).mono ?_
  rintro r w3 ⟨rfl, hn, hk⟩
  have HP := Lib.hid (show Pair (Fob p [] 0) (Fob w2.heap.size [] 0) (fun k => p ≤ k) w3 from Pair.make (Fob.ob _ _ _) (Fob.ob ..) ((Fob.ob _ _ _).fresh HN2.out hk) hn (fun k e1 e2 e3 => by have h1 : w2.heap.size ≤ k := e3; have := e1.2; omega) (fun k e => e.1) (fun k e => Nat.le_trans HPS.out e))
  have HA3 := Lib.hid (HA2.out.trans hk fun _ _ e => e)
  have HPS3 := Lib.hid (Nat.le_trans HPS.out hk.size)
  clear hn hk HA2 HN2 HPS
  obtain ⟨q, hq⟩ : ∃ q, w2.heap.size = q := ⟨_, rfl⟩
  rw [hq] at HP ⊢
  clear hq
  go_wp2_with (fail)
  go_loopw [9] (fun i wr => ∃ k : Nat, i = .int .i64 k ∧ k ≤ l.length ∧ Pair (Fob p (playF [] (l.take k)) (17 * k)) (Fob q (playF [] (l.take k)) (17 * k)) (fun k => p ≤ k) wr ∧ Kept (fun k => p ≤ k) w3 wr) (fun i _ => l.length - (intOf i).toNat)
  case atStart => exact ⟨0, rfl, Nat.zero_le _, HP.out, Kept.refl _ _⟩
  case round =>
    obtain ⟨k, rfl, hk, hn, hkk⟩ := hrel
    have HPR := Lib.hid hn
    have HK := Lib.hid hkk
    have HA := Lib.hid (HA3.out.trans hkk fun j hj e => by have := HWP.out; omega)
    have HPW := Lib.hid (Nat.le_trans HPS3.out hkk.size)
    clear hn hkk HP
    by_cases hlt : k < l.length
    case' pos =>
      as_aux_lemma =>
      have hi0 : (0 : Int) ≤ (k : Int) := by omega
      have hin : (k : Int) < (l.length : Int) := by omega
      have HST := Lib.hid (playF_take [] l k hlt)
      obtain ⟨ad, rfl, x0, x1⟩ := HSC.out.steps.fresh HA.out k hlt
      obtain ⟨y, hy⟩ : ∃ y, l[k] = y := ⟨_, rfl⟩
      have HOX := Lib.hid (show StfOk w y by rw [← hy]; exact HOK.out l[k] (List.getElem_mem hlt))
      have HXX := Lib.hid (show ∀ Wz, Kept (fun _ => False) w Wz → Wz.cell? (ad.add (k * 4)) = some (.int .i64 y.kind) ∧ Wz.rangeAt (ad.add (k * 4)).block (ad.add (k * 4)).off y.cs.toList from fun Wz hk => by
        obtain ⟨ad', e', g0, g1⟩ := HSC.out.steps.fresh hk k hlt
        injection e' with e'
        subst e'
        rw [hy] at g0 g1
        exact ⟨g0, g1⟩)
      rw [hy] at x0 x1 HST
      have HX0 := Lib.hid x0
      have HX1 := Lib.hid x1
      have HFW := Lib.hid (show ∀ Wz, Kept (fun k => p ≤ k) wr Wz → Kept (fun _ => False) w Wz from fun Wz hk => HA.out.trans hk fun j hj e => by have := HWP.out; omega)
      clear x0 x1 hy
      go_wp2_with (refine load_stf rfl _ rfl _ rfl y HX0.out HX1.out ?_)
      refine (Pair.doL (Fob.ob _ _ _) HPR.out (fun k e => Nat.le_trans HPW.out e) (by omega) HOX.out.site HOX.out.vl (fun W' hk => HOX.out.v.fresh (HFW.out W' hk))).mono ?_
      rintro r w4 ⟨⟨u4, rfl⟩, hn, hkk⟩
      have HP4 := Lib.hid hn
      have HK4 := Lib.hid hkk
      have HA4 := Lib.hid (HFW.out _ hkk)
      have HPW4 := Lib.hid (Nat.le_trans HPW.out hkk.size)
      have HX0 := Lib.hid (HXX.out w4 HA4.out).1
      have HX1 := Lib.hid (HXX.out w4 HA4.out).2
      clear hn hkk HPR HXX
      go_wp2_with (refine load_stf rfl _ rfl _ rfl y HX0.out HX1.out ?_)
      refine (Pair.doR (Fob.ob _ _ _) HP4.out (fun k e => Nat.le_trans HPW4.out e) (by omega) HOX.out.site HOX.out.vl (fun W' hk => HOX.out.v.fresh (HFW.out W' (HK4.out.trans hk fun _ _ e => e)))).mono ?_
      rintro r w5 ⟨⟨u5, rfl⟩, hn, hkk⟩
      rw [← HST.out] at hn
      have HP5 := Lib.hid hn
      have HK5 := Lib.hid ((HK.out.trans HK4.out fun _ _ e => e).trans hkk fun _ _ e => e)
      clear hn hkk HP4 HK4 HX0 HX1
      go_wp2_with (fail)
      go_roundw
      case rel => exact ⟨k + 1, by go_num, by omega, HP5.out, HK5.out⟩
      case measure => simp [intOf]; omega
    obtain rfl : k = l.length := by omega
    have HFA := Lib.hid (HPR.out.fst (Fob.ob _ _ _))
    have HFB := Lib.hid (HPR.out.snd (Fob.ob _ _ _))
    rw [List.take_length] at HFA HFB
    clear hlt hk HPR HSC HOK HA3 HPS3 HK HWP HPW
    obtain ⟨s, hs⟩ : ∃ s, playF [] l = s := ⟨_, rfl⟩
    rw [hs] at HFA HFB
    clear hs
    obtain ⟨N, hN⟩ : ∃ N, 17 * l.length = N := ⟨_, rfl⟩
    rw [hN] at HFA HFB
    clear hN hll
    obtain ⟨w4, rfl⟩ : ∃ w4 : World, w4 = wr := ⟨_, rfl⟩
    go_wp2_with (fail)
    go_loopw [10, 11, 12, 13, 14, 15, 16, 17, 18, 19, 20, 21, 22, 23] (fun n v11 v12 v13 v14 v15 v16 v17 v18 v19 v20 v21 v22 v23 wr => ∃ m : Nat, n = .int .i64 m ∧ 1 ≤ m ∧ m ≤ 17 ∧ Kept (fun _ => False) w4 wr) (fun n _ _ _ _ _ _ _ _ _ _ _ _ _ _ => 17 - (intOf n).toNat)
    case atStart => exact ⟨1, rfl, Nat.le_refl _, by omega, Kept.refl _ _⟩
    case round =>
      obtain ⟨m, rfl, hm1, hm2, hkk⟩ := hrel
      have HK := Lib.hid hkk
      clear hkk
      by_cases hlm : m ≤ 16
      case' neg =>
        as_aux_lemma =>
        have HAF := Lib.hid (HA.out.trans HK.out fun _ _ e => e)
        go_wp2_with (fail)
        refine (Known14_any wr).mono ?_
        rintro r wk ⟨rfl, hk⟩
        have HKF := Lib.hid (HAF.out.trans hk fun _ _ e => e)
        clear hk
        go_wp2_with (fail)
        go_ret
        exact ⟨rfl, HKF.out⟩
      as_aux_lemma =>
      have HMF := Lib.hid (show (Lit.int .i64 (m : Int)).wf = true by
        simp only [Lit.wf, Bool.and_eq_true, decide_eq_true_eq]
        exact ⟨by show (-9223372036854775808 : Int) ≤ m; omega, by show (m : Int) ≤ 9223372036854775807; omega⟩)
      obtain ⟨rl, hrl⟩ : ∃ rl, rowF s (m : Int) = rl := ⟨_, rfl⟩
      obtain ⟨u, hu⟩ : ∃ u, usableF s (m : Int) = u := ⟨_, rfl⟩
      obtain ⟨b, hb⟩ : ∃ b, heardF s (m : Int) = b := ⟨_, rfl⟩
      obtain ⟨fr, hfr⟩ : ∃ fr, frontier s ms (m : Int) own = fr := ⟨_, rfl⟩
      have HL1 := Lib.hid (show rl.length ≤ 17 by rw [← hrl]; exact rowF_len HFA.out.ok m)
      have HL2 := Lib.hid (show u.length ≤ 17 by rw [← hu]; exact usableF_len HFA.out.ok m)
      have HL3 := Lib.hid (show fr.length ≤ 20000 by rw [← hfr]; unfold frontier; split; exact frontF_len (by omega) _ _ (by omega); exact Nat.zero_le _)
      have HROA := Lib.hid (show ∀ W, Kept (fun _ => False) w4 W → Calls Try.prog 16 #[.pointer (some ⟨p, 0, none⟩), .int .i64 (m : Int)] W (RowAns W rl b) from fun W hk => by
        have h := ((Fob.ob _ _ _).fresh HFA.out hk).row_ HMF.out
        rwa [hrl, show heardF s (m : Int) = b from hb] at h)
      have HUSA := Lib.hid (show ∀ W, Kept (fun _ => False) w4 W → Calls Try.prog 18 #[.pointer (some ⟨p, 0, none⟩), .int .i64 (m : Int)] W (FreshDots W u) from fun W hk => by
        have h := ((Fob.ob _ _ _).fresh HFA.out hk).usable_ HMF.out
        rwa [hu] at h)
      have HFRA := Lib.hid (show ∀ W, Kept (fun _ => False) w4 W → Calls Try.prog 19 #[.pointer (some ⟨p, 0, none⟩), .slice B ms.length d, .int .i64 (m : Int), .slice C own.length e] W (FreshDots W fr) from fun W hk => by
        have h := ((Fob.ob _ _ _).fresh HFA.out hk).frontier_ B ms d (m : Int) C own e (HMS.out.fresh (HA.out.trans hk fun _ _ e => e)) (HOW.out.fresh (HA.out.trans hk fun _ _ e => e)) (by omega) (by omega) HWF.out
        rwa [hfr] at h)
      have HROB := Lib.hid (show ∀ W, Kept (fun _ => False) w4 W → Calls Try.prog 16 #[.pointer (some ⟨q, 0, none⟩), .int .i64 (m : Int)] W (RowAns W rl b) from fun W hk => by
        have h := ((Fob.ob _ _ _).fresh HFB.out hk).row_ HMF.out
        rwa [hrl, show heardF s (m : Int) = b from hb] at h)
      have HUSB := Lib.hid (show ∀ W, Kept (fun _ => False) w4 W → Calls Try.prog 18 #[.pointer (some ⟨q, 0, none⟩), .int .i64 (m : Int)] W (FreshDots W u) from fun W hk => by
        have h := ((Fob.ob _ _ _).fresh HFB.out hk).usable_ HMF.out
        rwa [hu] at h)
      have HFRB := Lib.hid (show ∀ W, Kept (fun _ => False) w4 W → Calls Try.prog 19 #[.pointer (some ⟨q, 0, none⟩), .slice B ms.length d, .int .i64 (m : Int), .slice C own.length e] W (FreshDots W fr) from fun W hk => by
        have h := ((Fob.ob _ _ _).fresh HFB.out hk).frontier_ B ms d (m : Int) C own e (HMS.out.fresh (HA.out.trans hk fun _ _ e => e)) (HOW.out.fresh (HA.out.trans hk fun _ _ e => e)) (by omega) (by omega) HWF.out
        rwa [hfr] at h)
      clear hrl hu hb hfr HMF HFA HFB
      obtain ⟨W0, rfl⟩ : ∃ W0 : World, W0 = wr := ⟨_, rfl⟩
      have hle1 := HL1.out
      have hle2 := HL2.out
      have hle3 := HL3.out
      go_wp2_with (fail)
      refine (HROA.out W0 HK.out).mono ?_
      rintro r v1 ⟨A1, c1, rfl, ho, hk⟩
      have HO1 := Lib.hid ho
      have HK1 := Lib.hid hk
      have HR1 := Lib.hid (HROA.out v1 (HK.out.trans hk fun _ _ e => e))
      clear ho hk
      go_wp2_with (fail)
      refine HR1.out.mono ?_
      rintro r v2 ⟨A2, c2, rfl, ho, hk⟩
      have HO2 := Lib.hid (own_base ho HK1.out.size)
      have HO1B := HO1
      have HO1 := Lib.hid (hk.own HO1B.out fun _ _ => id)
      have HAP := Lib.hid (show ∀ k, (Value.slice A1 rl.length c1).ownBlock = some k → (Value.slice A2 rl.length c2).ownBlock ≠ some k from fun k e1 e2 => by have := (ho.lt k e2).1; have := (HO1B.out.lt k e1).2; omega)
      have HK2 := Lib.hid (HK1.out.trans hk fun _ _ e => e)
      clear ho hk HR1 HK1 HO1B
      go_wp2_with (fail)
      go_loopw [11, 13, 15, 16, 17, 18, 19, 20, 21] (fun v11 v13 t v16 v17 v18 v19 v20 v21 wr => ∃ (k : Nat) (A1 : Option Addr) (c1 : Nat) (A2 : Option Addr) (c2 : Nat), v11 = .slice A1 rl.length c1 ∧ v13 = .slice A2 rl.length c2 ∧ t = .int .i64 k ∧ k ≤ 2 ∧ wr.ownsRow W0.heap.size 56 2 (.slice A1 rl.length c1) rl.length (dots rl) ∧ wr.ownsRow W0.heap.size 56 2 (.slice A2 rl.length c2) rl.length (dots rl) ∧ (∀ k, (Value.slice A1 rl.length c1).ownBlock = some k → (Value.slice A2 rl.length c2).ownBlock ≠ some k) ∧ Kept (fun _ => False) W0 wr) (fun _ _ t _ _ _ _ _ _ _ => 2 - (intOf t).toNat)
      case atStart => exact ⟨0, A1, c1, A2, c2, rfl, rfl, rfl, by omega, HO1.out, HO2.out, HAP.out, HK2.out⟩
      case round =>
        obtain ⟨t, B1, b1, B2, b2, rfl, rfl, rfl, ht, ho1, ho2, hap, hkk⟩ := hrel
        have HO1 := Lib.hid ho1
        have HO2 := Lib.hid ho2
        have HAP := Lib.hid hap
        have HK3 := Lib.hid hkk
        have HKW := Lib.hid (HK.out.trans hkk fun _ _ e => e)
        clear ho1 ho2 hap hkk HK2
        by_cases hlt : t < 2
        case' pos =>
          as_aux_lemma =>
          obtain ⟨v3, rfl⟩ : ∃ v3 : World, v3 = wr := ⟨_, rfl⟩
          have hlt2 : (t : Int) < 2 := by omega
          go_wp2_with (fail)
          refine (HUSA.out v3 HKW.out).mono ?_
          rintro r v4 ⟨A3, c3, rfl, ho, hk⟩
          have HO3 := Lib.hid ho
          have HK4 := Lib.hid hk
          have HF4 := Lib.hid (HFRA.out v4 (HKW.out.trans hk fun _ _ e => e))
          clear ho hk
          go_wp2_with (fail)
          refine HF4.out.mono ?_
          rintro r v5 ⟨A4, c4, rfl, ho, hk⟩
          have HFO := Lib.hid (FourAt.make HO1.out HO2.out HAP.out HK3.out HO3.out HK4.out ho hk)
          clear ho hk HF4 HO3 HK4 HO1 HO2 HAP HK3 HKW
          go_wp2_with (fail)
          generalize v5.alloc (.cells _ 31) = v6 at HFO ⊢
          obtain ⟨Y, hY⟩ : ∃ Y, v5.heap.size = Y := ⟨_, rfl⟩
          rw [hY] at HFO ⊢
          clear hY
          obtain ⟨es, hes⟩ : ∃ es : List Wl, [(⟨B1, rl, b1⟩ : Wl), ⟨A3, u, c3⟩, ⟨A4, fr, c4⟩, ⟨B2, rl, b2⟩] = es := ⟨_, rfl⟩
          have HEL := Lib.hid (show es.length = 4 by rw [← hes]; rfl)
          have HEB := Lib.hid (show ∀ x ∈ es, x.l.length ≤ 20000 by
            rw [← hes]
            intro x hx
            rcases List.mem_cons.1 hx with rfl | hx
            · exact Nat.le_trans HL1.out (by omega)
            rcases List.mem_cons.1 hx with rfl | hx
            · exact Nat.le_trans HL2.out (by omega)
            rcases List.mem_cons.1 hx with rfl | hx
            · exact HL3.out
            rcases List.mem_cons.1 hx with rfl | hx
            · exact Nat.le_trans HL1.out (by omega)
            cases hx)
          rw [hes] at HFO
          clear hes
          go_loopw [17, 18, 19] (fun i v18 v19 wr => ∃ (k : Nat) (es : List Wl), i = .int .i64 k ∧ k ≤ 4 ∧ es.length = 4 ∧ FourAt W0 wr Y es ∧ Mk k es ∧ (∀ x ∈ es, x.l.length ≤ 20000 + k)) (fun i _ _ _ => 4 - (intOf i).toNat)
          case atStart => exact ⟨0, es, rfl, Nat.zero_le _, HEL.out, HFO.out, fun k h1 h2 => absurd h2 (Nat.not_lt_zero _), fun x hx => HEB.out x hx⟩
          case round =>
            obtain ⟨k, es2, rfl, hk, hel, hfo, hmk, heb⟩ := hrel
            have HFO2 := Lib.hid hfo
            have HMK := Lib.hid hmk
            have HEB2 := Lib.hid heb
            have HEL2 := Lib.hid hel
            clear hfo hmk heb hel HFO HEB HEL
            by_cases hk4 : k < 4
            case' pos =>
              as_aux_lemma =>
              have hkl : k < es2.length := by rw [HEL2.out]; exact hk4
              have hk0 : (0 : Int) ≤ (k : Int) := by omega
              have hki : (k : Int) < 4 := by omega
              obtain ⟨x, hx⟩ : ∃ x, es2[k] = x := ⟨_, rfl⟩
              obtain ⟨A5, L, c5⟩ := x
              have HXE := Lib.hid hx
              have HXL := Lib.hid (show L.length ≤ 20000 + k by have := HEB2.out _ (List.getElem_mem hkl); rw [hx] at this; exact this)
              have HE0 := Lib.hid (show FourAt W0 wr Y (es2.set k ⟨A5, overD ⟨20 + (k : Int), 9⟩ 0 L, c5⟩) by
                rw [overD_zero, ← HXE.out, List.set_getElem_self]
                exact HFO2.out)
              have y0 : wr.cell? ⟨Y, k, none⟩ = some (.slice A5 L.length c5) := by
                have := (HFO2.out.at hkl).1
                rw [hx] at this
                exact this
              have hll := HXL.out
              obtain ⟨wo, rfl⟩ : ∃ wo : World, wo = wr := ⟨_, rfl⟩
              clear hx HFO2
              go_wp2_with (fail)
              clear y0
              go_loopw [19] (fun i wr => ∃ j : Nat, i = .int .i64 j ∧ j ≤ L.length ∧ FourAt W0 wr Y (es2.set k ⟨A5, overD ⟨20 + (k : Int), 9⟩ j L, c5⟩)) (fun i _ => L.length - (intOf i).toNat)
              case atStart => exact ⟨0, rfl, Nat.zero_le _, HE0.out⟩
              case round =>
                obtain ⟨j, rfl, hj, hfo⟩ := hrel
                have HF5 := Lib.hid hfo
                clear hfo HE0
                by_cases hjl : j < L.length
                case' pos =>
                  as_aux_lemma =>
                  obtain ⟨g, a1, a2, hA, y1, y2, hf, hf6⟩ := HF5.out.dot (k := k) (by rw [List.length_set]; exact hkl) (List.getElem_set_self _) (m := j) (by rw [overD_len hj]; exact hjl) ⟨20 + (k : Int), 9⟩
                  rw [overD_set hjl, List.set_set] at hf6
                  subst hA
                  have HF6 := Lib.hid hf6
                  have f1 := hf (j * 2)
                  have f2 := hf (j * 2 + 1)
                  have hj0 : (0 : Int) ≤ (j : Int) := by omega
                  have hji : (j : Int) < (L.length : Int) := by omega
                  clear hf6 hf HF5
                  go_wp2_with (fail)
                  go_roundw
                  case rel => exact ⟨j + 1, by go_num, by omega, HF6.out⟩
                  case measure => simp [intOf]; omega
                obtain rfl : j = L.length := by omega
                have HOW5 := Lib.hid (show wr.ownsRow W0.heap.size 56 2 (.slice A5 L.length c5) L.length (dots (List.replicate L.length ⟨20 + (k : Int), 9⟩)) by
                  have h := HF5.out.own k (by rw [List.length_set]; exact hkl)
                  rw [List.getElem_set_self, overD_all] at h
                  have h' : wr.ownsRow W0.heap.size 56 2 (.slice A5 (List.replicate L.length (⟨20 + (k : Int), 9⟩ : Dt)).length c5) (List.replicate L.length (⟨20 + (k : Int), 9⟩ : Dt)).length (dots (List.replicate L.length ⟨20 + (k : Int), 9⟩)) := h
                  rwa [List.length_replicate] at h')
                have HBS := Lib.hid (Nat.le_trans HF5.out.kept.size (Nat.le_refl _))
                go_wp2_with (at_builtin; refine Hid.out ?_)
                refine Lib.hid ?_
                refine wpList_append_new eltDots rfl _ _ rfl W0.heap.size _ L.length (dots (List.replicate L.length ⟨20 + (k : Int), 9⟩)) rfl HOW5.out 1 1 rfl rfl rfl (by omega) HBS.out ?_
                intro A6 c6 w6 HO6 HK6 HG6
                obtain ⟨y0, f0, hf7⟩ := HF5.out.grow (k := k) (by rw [List.length_set]; exact hkl) (by rw [List.getElem_set_self, overD_all]) (L := List.replicate L.length ⟨20 + (k : Int), 9⟩) (d := ⟨50 + (k : Int), 0⟩) (A' := A6) (c' := c6) (by rw [List.length_replicate]; exact HO6.out) (by rw [List.length_replicate]; exact HK6.out) (by rw [List.length_replicate]; exact HG6.out)
                rw [List.set_set] at hf7
                rw [List.length_replicate] at y0 hf7
                have HF7 := Lib.hid hf7
                clear hf7 HF5 HOW5 HO6 HK6 HG6
                go_wp2_with (fail)
                go_roundw
                case rel =>
                  refine ⟨k + 1, es2.set k ⟨A6, List.replicate L.length ⟨20 + (k : Int), 9⟩ ++ [⟨50 + (k : Int), 0⟩], c6⟩, by go_num, by omega, by rw [List.length_set]; exact HEL2.out, HF7.out, HMK.out.step (m := L.length) rfl, fun x hx => ?_⟩
                  rcases List.mem_or_eq_of_mem_set hx with h | rfl
                  · have := HEB2.out x h; omega
                  · show (List.replicate L.length _ ++ [_]).length ≤ _
                    rw [List.length_append, List.length_replicate]
                    exact Nat.succ_le_succ hll
                case measure => simp [intOf]; omega
            obtain rfl : k = 4 := by omega
            obtain ⟨w7, rfl⟩ : ∃ w7 : World, w7 = wr := ⟨_, rfl⟩
            clear hk4 hk
            go_wp2_with (fail)
            go_loopw [20, 21] (fun i v21 wr => ∃ k : Nat, i = .int .i64 k ∧ k ≤ 4 ∧ Kept (fun _ => False) w7 wr) (fun i _ _ => 4 - (intOf i).toNat)
            case atStart => exact ⟨0, rfl, Nat.zero_le _, Kept.refl _ _⟩
            case round =>
              obtain ⟨k, rfl, hk, hkk⟩ := hrel
              have HK7 := Lib.hid hkk
              have HFO3 := Lib.hid (HFO2.out.fresh hkk)
              clear hkk
              by_cases hk4 : k < 4
              case' pos =>
                as_aux_lemma =>
                have hkl : k < es2.length := by rw [HEL2.out]; exact hk4
                have hk0 : (0 : Int) ≤ (k : Int) := by omega
                have hki : (k : Int) < 4 := by omega
                obtain ⟨n, hn⟩ := HMK.out k hkl hk4
                obtain ⟨x, hx⟩ : ∃ x, es2[k] = x := ⟨_, rfl⟩
                obtain ⟨A5, L, c5⟩ := x
                rw [hx] at hn
                obtain rfl : L = marks k n := hn
                have HXE := Lib.hid hx
                have HLB := Lib.hid (show n + 1 ≤ 20004 by have := HEB2.out _ (List.getElem_mem hkl); rw [hx] at this; have h2 : (marks k n).length ≤ 20004 := this; rwa [marks_len] at h2)
                have hlb9 := HLB.out
                have hln : (marks k n).length = n + 1 := marks_len k n
                clear hx
                obtain ⟨wo, rfl⟩ : ∃ wo : World, wo = wr := ⟨_, rfl⟩
                go_wp2_with (fail)
                go_loopw [21] (fun i wr => ∃ j : Nat, i = .int .i64 j ∧ j ≤ n + 1 ∧ Kept (fun _ => False) w7 wr) (fun i _ => n + 1 - (intOf i).toNat)
                case atStart => exact ⟨0, rfl, Nat.zero_le _, HK7.out⟩
                case round =>
                  obtain ⟨j, rfl, hj, hkk⟩ := hrel
                  have HK8 := Lib.hid hkk
                  have HF8 := Lib.hid (HFO2.out.fresh hkk)
                  clear hkk HFO3
                  have y0 : wr.cell? ⟨Y, k, none⟩ = some (.slice A5 (n + 1 : Nat) c5) := by
                    have := (HF8.out.at hkl).1
                    rw [HXE.out] at this
                    rw [← hln]
                    exact this
                  have HOW8 := Lib.hid (show wr.ownsRow W0.heap.size 56 2 (.slice A5 (n + 1) c5) (n + 1) (dots (marks k n)) by
                    have h := HF8.out.own k hkl
                    rw [HXE.out] at h
                    have h' : wr.ownsRow W0.heap.size 56 2 (.slice A5 (marks k n).length c5) (marks k n).length (dots (marks k n)) := h
                    rwa [hln] at h')
                  have HLN := Lib.hid hln
                  clear hln HF8
                  by_cases hjl : j < n
                  · as_aux_lemma =>
                    have hj0 : (0 : Int) ≤ (j : Int) := by omega
                    have hji : (j : Int) < (n : Int) + 1 := by omega
                    obtain ⟨g, hA, -, hc, -⟩ := own_cells HOW8.out (by omega)
                    subst hA
                    have y1 : wr.cell? ⟨g, j * 2, none⟩ = some (.int .i64 (20 + (k : Int))) := by
                      refine hc _ _ ?_
                      rw [(dots_get (marks k n) j (by rw [HLN.out]; omega)).1]
                      have h := marks_low (k := k) hjl
                      rw [List.getElem?_eq_getElem (by rw [HLN.out]; omega)] at h
                      rw [Option.some.inj h]
                    have e1 : ((20 : Int) + (k : Int) != 20 + (k : Int)) = false := by simp
                    clear hc
                    go_wp2_with (fail)
                    go_roundw
                    case rel => exact ⟨j + 1, by go_num, by omega, HK8.out⟩
                    case measure => simp [intOf]; omega
                  · by_cases hjn : j = n
                    · as_aux_lemma =>
                      subst hjn
                      have hj0 : (0 : Int) ≤ (j : Int) := by omega
                      have hji : (j : Int) < (j : Int) + 1 := by omega
                      obtain ⟨g, hA, -, hc, -⟩ := own_cells HOW8.out (by omega)
                      subst hA
                      have y1 : wr.cell? ⟨g, j * 2, none⟩ = some (.int .i64 (50 + (k : Int))) := by
                        refine hc _ _ ?_
                        rw [(dots_get (marks k j) j (by rw [HLN.out]; omega)).1]
                        have h := marks_last k j
                        rw [List.getElem?_eq_getElem (by rw [HLN.out]; omega)] at h
                        rw [Option.some.inj h]
                      have e1 : ((50 : Int) + (k : Int) != 20 + (k : Int)) = true := by simp
                      have e2 : ((50 : Int) + (k : Int) != 50 + (k : Int)) = false := by simp
                      clear hc
                      go_wp2_with (fail)
                      go_roundw
                      case rel => exact ⟨j + 1, by go_num, by omega, HK8.out⟩
                      case measure => simp [intOf]
                    · as_aux_lemma =>
                      obtain rfl : j = n + 1 := by omega
                      clear HOW8
                      go_wp2_with (fail)
                      go_roundw
                      case rel => exact ⟨k + 1, by go_num, by omega, HK8.out⟩
                      case measure => simp [intOf]; omega
              obtain rfl : k = 4 := by omega
              clear hk4 hk
              have HK9 := Lib.hid (HFO3.out.kept)
              obtain ⟨w9, rfl⟩ : ∃ w9 : World, w9 = wr := ⟨_, rfl⟩
              clear HFO3 HFO2 HMK HEB2 HEL2 HK7
              have HR9 := Lib.hid (HROA.out w9 (HK.out.trans HK9.out fun _ _ e => e))
              go_wp2_with (fail)
              refine HR9.out.mono ?_
              rintro r w10 ⟨A7, c7, rfl, ho, hk⟩
              have HO7 := Lib.hid (own_base ho HK9.out.size)
              have HK10 := Lib.hid (HK9.out.trans hk fun _ _ e => e)
              have HR10 := Lib.hid (HROA.out w10 (HK.out.trans HK10.out fun _ _ e => e))
              clear ho hk HR9 HK9
              go_wp2_with (fail)
              refine HR10.out.mono ?_
              rintro r w11 ⟨A8, c8, rfl, ho, hk⟩
              have HO8 := Lib.hid (own_base ho HK10.out.size)
              have HAP8 := Lib.hid (show ∀ k, (Value.slice A7 rl.length c7).ownBlock = some k → (Value.slice A8 rl.length c8).ownBlock ≠ some k from fun k e1 e2 => by have := (ho.lt k e2).1; have := (HO7.out.lt k e1).2; omega)
              have HO7 := Lib.hid (hk.own HO7.out fun _ _ => id)
              have HK11 := Lib.hid (HK10.out.trans hk fun _ _ e => e)
              clear ho hk HR10 HK10
              go_wp2_with (fail)
              go_roundw
              case rel => exact ⟨t + 1, A7, c7, A8, c8, rfl, rfl, by go_num, by omega, HO7.out, HO8.out, HAP8.out, HK11.out⟩
              case measure => simp [intOf]; omega
        obtain rfl : t = 2 := by omega
        obtain ⟨v3, rfl⟩ : ∃ v3 : World, v3 = wr := ⟨_, rfl⟩
        have HD1 := Lib.hid (DotsAt.of_own HO1.out)
        have HD2 := Lib.hid (DotsAt.of_own HO2.out)
        clear hlt ht HO1 HO2 HAP
        have HR3 := Lib.hid (HROB.out v3 HKW.out)
        go_wp2_with (fail)
        refine HR3.out.mono ?_
        rintro r v4 ⟨A3, c3, rfl, ho, hk⟩
        have HD3 := Lib.hid (DotsAt.of_own ho)
        have HK4 := Lib.hid (HKW.out.trans hk fun _ _ e => e)
        have HKV := Lib.hid hk
        clear ho hk HR3
        have hve := vectors_any B1 A3 rl rl b1 c3 v4 (HD1.out.fresh HKV.out) (HD3.out) (by omega)
        rw [decide_eq_true rfl] at hve
        have HVE := Lib.hid hve
        clear hve
        go_wp2_with (fail)
        refine HVE.out.mono ?_
        unfold SamePost
        rintro r v5 ⟨rfl, hk⟩
        have HKV := Lib.hid (HKV.out.trans hk fun _ _ e => e)
        have HK5 := Lib.hid (HK4.out.trans hk fun _ _ e => e)
        have HD3 := Lib.hid (HD3.out.fresh hk)
        clear hk HVE
        have hve := vectors_any B2 A3 rl rl b2 c3 v5 (HD2.out.fresh HKV.out) (HD3.out) (by omega)
        rw [decide_eq_true rfl] at hve
        have HVE := Lib.hid hve
        clear hve
        go_wp2_with (fail)
        refine HVE.out.mono ?_
        unfold SamePost
        rintro r v6 ⟨rfl, hk⟩
        have HKV := Lib.hid (HKV.out.trans hk fun _ _ e => e)
        have HK6 := Lib.hid (HK5.out.trans hk fun _ _ e => e)
        clear hk HVE HD1 HD2 HD3 HKV
        have HR := Lib.hid (HUSA.out v6 HK6.out)
        go_wp2_with (fail)
        refine HR.out.mono ?_
        rintro r v7 ⟨A5, c5, rfl, ho, hk⟩
        have HK7 := Lib.hid (HK6.out.trans hk fun _ _ e => e)
        have HE1 := Lib.hid (DotsAt.of_own ho)
        have HR2 := Lib.hid (HUSB.out v7 HK7.out)
        clear ho hk HR
        go_wp2_with (fail)
        refine HR2.out.mono ?_
        rintro r v8 ⟨A6, c6, rfl, ho, hk⟩
        have HK8 := Lib.hid (HK7.out.trans hk fun _ _ e => e)
        have HE1 := Lib.hid (HE1.out.fresh hk)
        have HE2 := Lib.hid (DotsAt.of_own ho)
        have HKV := Lib.hid (Kept.refl (fun _ => False) v8)
        clear ho hk HR2
        have hve := vectors_any A5 A6 u u c5 c6 v8 (HE1.out) (HE2.out) (by omega)
        rw [decide_eq_true rfl] at hve
        have HVE := Lib.hid hve
        clear hve
        go_wp2_with (fail)
        refine HVE.out.mono ?_
        unfold SamePost
        rintro r v9 ⟨rfl, hk⟩
        have HKV := Lib.hid (HKV.out.trans hk fun _ _ e => e)
        have HK9 := Lib.hid (HK8.out.trans hk fun _ _ e => e)
        clear hk HVE HE1 HE2 HKV
        have HR := Lib.hid (HFRA.out v9 HK9.out)
        go_wp2_with (fail)
        refine HR.out.mono ?_
        rintro r v10 ⟨A7, c7, rfl, ho, hk⟩
        have HK10 := Lib.hid (HK9.out.trans hk fun _ _ e => e)
        have HE1 := Lib.hid (DotsAt.of_own ho)
        have HR2 := Lib.hid (HFRB.out v10 HK10.out)
        clear ho hk HR
        go_wp2_with (fail)
        refine HR2.out.mono ?_
        rintro r v11 ⟨A8, c8, rfl, ho, hk⟩
        have HK11 := Lib.hid (HK10.out.trans hk fun _ _ e => e)
        have HE1 := Lib.hid (HE1.out.fresh hk)
        have HE2 := Lib.hid (DotsAt.of_own ho)
        have HKV := Lib.hid (Kept.refl (fun _ => False) v11)
        clear ho hk HR2
        have hve := vectors_any A7 A8 fr fr c7 c8 v11 (HE1.out) (HE2.out) (by omega)
        rw [decide_eq_true rfl] at hve
        have HVE := Lib.hid hve
        clear hve
        go_wp2_with (fail)
        refine HVE.out.mono ?_
        unfold SamePost
        rintro r v12 ⟨rfl, hk⟩
        have HKV := Lib.hid (HKV.out.trans hk fun _ _ e => e)
        have HK12 := Lib.hid (HK11.out.trans hk fun _ _ e => e)
        clear hk HVE HE1 HE2 HKV
        go_wp2_with (fail)
        go_roundw
        case rel => exact ⟨m + 1, by go_num, by omega, by omega, HK12.out⟩
        case measure => simp [intOf]; omega
end Go.Proofs.Ythlejmpeigfdgaa
