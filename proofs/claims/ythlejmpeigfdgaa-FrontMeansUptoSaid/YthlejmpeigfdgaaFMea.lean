/- The walk of FrontMeans: it is true. Conditions: the script, the members and the vector lie in memory. -/
import Derived.Test.YthlejmpeigfdgaaFWas
import Derived.StillTailTactics
namespace Go.Proofs.Ythlejmpeigfdgaa
open Go Go.RowKit

theorem usable_zero_len (u : List Dt) (h : u = []) : decide ((0 : Int) < (u.length : Int)) = false := by subst h; rfl
set_option maxRecDepth 100000 in
set_option maxHeartbeats 25600000 in
theorem Means_walk (A B C : Option Addr) (c d e : Nat) (l : List Stf) (ms : List Int) (self : Int) (own : List Dt) (more : Int) (w : World) (h : ScfAt w A l) (hB : IntsAt w B ms) (hC : DotsAt w C own) (hw : ∀ m ∈ ms, (Lit.int .i64 m).wf = true) (hmw : (Lit.int .i64 more).wf = true) (hl : l.length ≤ 4611686018427387904) (hm : ms.length ≤ 4611686018427387904) (ho : own.length ≤ 4611686018427387904) :
    Calls Try.prog 6 #[.slice A l.length c, .slice B ms.length d, .int .i64 self, .slice C own.length e, .int .i64 more] w (KnownPost w) := by
  have HSC := Lib.hid h
  have HMS := Lib.hid hB
  have HOW := Lib.hid hC
  have HWF := Lib.hid hw
  have HMW := Lib.hid hmw
  clear h hB hC hw hmw
  go_enter Try.func6, Try.ntmps6
  go_wp2_with (fail)
  refine (Much14_any A l c w HSC.out.steps hl).mono ?_
  rintro r w1 ⟨rfl, hk⟩
  have HA1 := Lib.hid hk
  clear hk
  obtain ⟨bm, hbm⟩ : ∃ bm, muchF l = bm := ⟨_, rfl⟩
  rw [hbm]
  have HBM := Lib.hid hbm
  clear hbm
  cases bm with
  | true =>
    as_aux_lemma =>
    go_wp2_with (fail)
    refine (Known14_any w1).mono ?_
    rintro r wk ⟨rfl, hk⟩
    have HKF := Lib.hid (HA1.out.trans hk fun _ _ e => e)
    clear hk
    go_wp2_with (fail)
    go_ret
    exact ⟨rfl, HKF.out⟩
  | false =>
  obtain ⟨hok, hll⟩ := HSC.out.ok HBM.out
  have HOK := Lib.hid hok
  clear hok HBM hl hll
  by_cases hla : 80 < l.length
  · as_aux_lemma =>
    have hla' : (80 : Int) < (l.length : Int) := by omega
    go_wp2_with (fail)
    refine (Known14_any w1).mono ?_
    rintro r wk ⟨rfl, hk⟩
    have HKF := Lib.hid (HA1.out.trans hk fun _ _ e => e)
    clear hk
    go_wp2_with (fail)
    go_ret
    exact ⟨rfl, HKF.out⟩
  have hla' : ¬ (80 : Int) < (l.length : Int) := by omega
  by_cases hlb : 40 < ms.length
  · as_aux_lemma =>
    have hlb' : (40 : Int) < (ms.length : Int) := by omega
    go_wp2_with (fail)
    refine (Known14_any w1).mono ?_
    rintro r wk ⟨rfl, hk⟩
    have HKF := Lib.hid (HA1.out.trans hk fun _ _ e => e)
    clear hk
    go_wp2_with (fail)
    go_ret
    exact ⟨rfl, HKF.out⟩
  have hlb' : ¬ (40 : Int) < (ms.length : Int) := by omega
  by_cases hlc : 20000 < own.length
  · as_aux_lemma =>
    have hlc' : (20000 : Int) < (own.length : Int) := by omega
    go_wp2_with (fail)
    refine (Known14_any w1).mono ?_
    rintro r wk ⟨rfl, hk⟩
    have HKF := Lib.hid (HA1.out.trans hk fun _ _ e => e)
    clear hk
    go_wp2_with (fail)
    go_ret
    exact ⟨rfl, HKF.out⟩
  have hlc' : ¬ (20000 : Int) < (own.length : Int) := by omega
  go_wp2_with (fail)
  refine (Fob.new w1 w1.heap.size (Nat.le_refl _)).mono ?_
  rintro r w2 ⟨rfl, hn, hk⟩
  have HN2 := Lib.hid ((Fob.ob _ _ _).cut hn)
  have HA2 := Lib.hid (HA1.out.trans hk fun _ _ e => e)
  have HWP := Lib.hid HA1.out.size
  have HPS := Lib.hid hk.size
  have hz := was_zero w2
  clear hn hk HA1
  obtain ⟨p, hp⟩ : ∃ p, w1.heap.size = p := ⟨_, rfl⟩
  rw [hp] at HN2 HWP HPS ⊢
  clear hp
  go_wp2_with (fail)
  have HP := Lib.hid (show Pair (Fob p [] 0) (Was w2.heap.size (fun n => usableF [] n)) (fun k => p ≤ k) _ from Pair.make (Fob.ob _ _ _) (Was.ob _ _) ((Fob.ob _ _ _).fresh HN2.out hz.2) hz.1 (fun k e1 e2 e3 => by have h1 : k = w2.heap.size := e3; have := e1.2; omega) (fun k e => e.1) (fun k e => by have h1 : k = w2.heap.size := e; have := HPS.out; omega))
  have HA3 := Lib.hid (HA2.out.trans hz.2 fun _ _ e => e)
  have HPS3 := Lib.hid (Nat.le_trans HPS.out hz.2.size)
  clear hz HN2 HA2
  generalize w2.alloc (.cells _ 47) = w3 at HP HA3 HPS3 ⊢
  obtain ⟨X, hX⟩ : ∃ X, w2.heap.size = X := ⟨_, rfl⟩
  rw [hX] at HP ⊢
  clear hX HPS
  go_loopw [13, 14, 15, 16, 17, 18] (fun i v14 v15 v16 v17 v18 wr => ∃ k : Nat, i = .int .i64 k ∧ k ≤ l.length ∧ Pair (Fob p (playF [] (l.take k)) (17 * k)) (Was X (fun n => usableF (playF [] (l.take k)) n)) (fun k => p ≤ k) wr ∧ Kept (fun k => p ≤ k) w3 wr) (fun i _ _ _ _ _ _ => l.length - (intOf i).toNat)
  case atStart => exact ⟨0, rfl, Nat.zero_le _, HP.out, Kept.refl _ _⟩
  case round =>
    obtain ⟨k, rfl, hk, hn, hkk⟩ := hrel
    have HPR := Lib.hid hn
    have HK := Lib.hid hkk
    have HA := Lib.hid (HA3.out.trans hkk fun j hj e => by have := HWP.out; omega)
    have HPW := Lib.hid (Nat.le_trans HPS3.out hkk.size)
    clear hn hkk HP
    by_cases hlt : k < l.length
    case' pos =>
      as_aux_lemma =>
      have hi0 : (0 : Int) ≤ (k : Int) := by omega
      have hin : (k : Int) < (l.length : Int) := by omega
      have HST := Lib.hid (playF_take [] l k hlt)
      have HSO := Lib.hid (playF_ok (l.take k))
      obtain ⟨ad, rfl, x0, x1⟩ := HSC.out.steps.fresh HA.out k hlt
      obtain ⟨y, hy⟩ : ∃ y, l[k] = y := ⟨_, rfl⟩
      have HOX := Lib.hid (show StfOk w y by rw [← hy]; exact HOK.out l[k] (List.getElem_mem hlt))
      rw [hy] at x0 x1 HST
      have HX0 := Lib.hid x0
      have HX1 := Lib.hid x1
      have HFW := Lib.hid (show ∀ Wz, Kept (fun k => p ≤ k) wr Wz → Kept (fun _ => False) w Wz from fun Wz hk => HA.out.trans hk fun j hj e => by have := HWP.out; omega)
      clear x0 x1 hy
      obtain ⟨s, hs⟩ : ∃ s, playF [] (l.take k) = s := ⟨_, rfl⟩
      rw [hs] at HPR HST HSO
      clear hs
      have hka : Kept (fun _ => False) wr (wr.alloc (.cells stfZ 34)) := (Kept.refl _ _).alloc _
      have HKA := Lib.hid hka
      have HN := Lib.hid (Box.new wr 34 stfZ)
      clear hka
      go_wp2_with (first | refine load_stf rfl _ rfl _ rfl y HX0.out HX1.out ?_ | (refine wpList_store_box rfl 34 (.tmp 14) _ rfl wr.heap.size y.cs rfl rfl 34 stfZ HN.out (size_stf.trans rfl) rfl y.cs_one ?_; intro w4 HB4 hk4; refine Hid.out ?_))
      refine Lib.hid ?_
      have hkf : Kept (fun _ => False) wr w4 := HKA.out.trans hk4 fun k hk e => by omega
      have HP4 := Lib.hid (HPR.out.also (Fob.ob _ _ _) (Was.ob _ _) (Bob.ob wr.heap.size 34 y.cs) hkf (Fc := fun k => k = wr.heap.size) ⟨HB4.out, rfl⟩ (fun k e => by have h1 : k = wr.heap.size := e; omega) (fun k e => Nat.le_trans HPW.out e))
      have HK4 := Lib.hid (HK.out.trans hkf fun _ _ e => e.elim)
      have HPW4 := Lib.hid (Nat.le_trans HPW.out hkf.size)
      have HKR := Lib.hid (hkf.more (T := fun k => p ≤ k) fun _ _ e => e.elim)
      have hXZ : X < wr.heap.size := (HPR.out.snd (Was.ob _ _)).lt
      clear hkf hk4 HKA HN HX0 HX1 HPR HK HPW
      obtain ⟨Z, hZ⟩ : ∃ Z, wr.heap.size = Z := ⟨_, rfl⟩
      rw [hZ] at HB4 HP4 hXZ ⊢
      clear hZ
      have z0 : w4.cell? ⟨Z, 0, none⟩ = some (.int .i64 y.kind) := (HB4.out.cell 0).trans rfl
      have z1 : w4.rangeAt Z 0 y.cs.toList := fun j v hj => by rw [Nat.zero_add, HB4.out.cell]; simpa using hj
      have HZ0 := Lib.hid z0
      have HZ1 := Lib.hid z1
      clear z1
      go_wp2_with (refine load_stf rfl _ rfl ⟨Z, 0, none⟩ rfl y HZ0.out HZ1.out ?_)
      refine (Pair.doL (Ob.and (Was.ob _ _) (Bob.ob _ _ _)) HP4.out (fun k e => Nat.le_trans HPW4.out e) (by omega) HOX.out.site HOX.out.vl (fun W' hk => HOX.out.v.fresh (HFW.out W' (HKR.out.trans hk fun _ _ e => e)))).mono ?_
      rintro r w5 ⟨⟨u5, rfl⟩, hn, hkk⟩
      rw [← HST.out] at hn
      have HSS := Lib.hid HST.out.symm
      obtain ⟨s', hs'⟩ : ∃ s', playF [] (l.take (k + 1)) = s' := ⟨_, rfl⟩
      have HSO' := Lib.hid (playF_ok (l.take (k + 1)))
      rw [hs'] at hn HSO' HSS
      have HST' := Lib.hid hs'
      have HP5 := Lib.hid (hn.snd_mono fun G h => h.1)
      have HB5 := Lib.hid (hn.snd (Ob.and (Was.ob _ _) (Bob.ob _ _ _))).2.1
      have HK5 := Lib.hid (HK4.out.trans hkk fun _ _ e => e)
      have HPW5 := Lib.hid (Nat.le_trans HPW4.out hkk.size)
      have HFW5 := Lib.hid (show ∀ Wz, Kept (fun k => p ≤ k) w5 Wz → Kept (fun _ => False) w Wz from fun Wz hk => HFW.out Wz (HKR.out.trans (hkk.trans hk fun _ _ e => e) fun _ _ e => e))
      clear hn hkk hs' HST HP4 HB4 HK4 HPW4 HFW HKR z0 HZ0 HZ1
      go_wp2_with (fail)
      go_loopw [15, 16, 17, 18] (fun n v16 v17 v18 wr => ∃ m : Nat, n = .int .i64 m ∧ 1 ≤ m ∧ m ≤ 17 ∧ Pair (Fob p s' (17 * k + 17)) (Was X (fun i => usableF (if i < m then s' else s) i)) (fun k => p ≤ k) wr ∧ Kept (fun j => j = X) w5 wr) (fun n _ _ _ _ => 17 - (intOf n).toNat)
      case atStart => exact ⟨1, rfl, Nat.le_refl _, by omega, HP5.out.snd_mono fun G h => h.congr fun i e1 e2 => by rw [if_neg (by omega)], Kept.refl _ _⟩
      case round =>
        obtain ⟨m, rfl, hm1, hm2, hn, hkk⟩ := hrel
        have HPM := Lib.hid hn
        have HKM := Lib.hid hkk
        have HBM := Lib.hid (HB5.out.kept hkk (by omega))
        have HXP := Lib.hid (show p ≤ X from by
          obtain ⟨Fa, Fb, h1, ⟨es, g0, g1, g2, g3⟩, h3, h4⟩ := HP5.out
          exact (h4 X g2).1)
        have HFM := Lib.hid (show ∀ Wz, Kept (fun _ => False) wr Wz → Kept (fun _ => False) w Wz from fun Wz hk => HFW5.out Wz ((HKM.out.more fun k _ e => by have := HXP.out; omega).trans hk fun _ _ e => e.elim))
        clear hn hkk
        by_cases hlm : m ≤ 16
        case' pos =>
          as_aux_lemma =>
          have hm0 : (0 : Int) ≤ (m : Int) := by omega
          have hm17 : (m : Int) < 17 := by omega
          have hwf : (Lit.int .i64 (m : Int)).wf = true := by
            simp only [Lit.wf, Bool.and_eq_true, decide_eq_true_eq]
            exact ⟨by show (-9223372036854775808 : Int) ≤ m; omega, by show (m : Int) ≤ 9223372036854775807; omega⟩
          have HMF := Lib.hid hwf
          have HF1 := Lib.hid (HPM.out.fst (Fob.ob _ _ _))
          have HW1 := Lib.hid (HPM.out.snd (Was.ob _ _))
          obtain ⟨rl, hrl⟩ : ∃ rl, rowF s' (m : Int) = rl := ⟨_, rfl⟩
          obtain ⟨u, hu⟩ : ∃ u, usableF s' (m : Int) = u := ⟨_, rfl⟩
          obtain ⟨u0, hu0⟩ : ∃ u0, usableF s (m : Int) = u0 := ⟨_, rfl⟩
          obtain ⟨b, hb⟩ : ∃ b, heardF s' (m : Int) = b := ⟨_, rfl⟩
          have HL1 := Lib.hid (rowF_len HF1.out.ok m)
          have HL2 := Lib.hid (usableF_len HF1.out.ok m)
          have HL3 := Lib.hid (usableF_len HSO.out.2.2 m)
          have HC1 := Lib.hid (HSO'.out.2.1.row m)
          have HC2 := Lib.hid (HSO'.out.2.1.usable m)
          have HC3 := Lib.hid (HSO'.out.1 m)
          have HC4 := Lib.hid (step_covers HSO.out.1 y m)
          have HC5 := Lib.hid (fun h => usableF_no (s := s') (m := m) h)
          have HC6 := Lib.hid (fun h => step_turned (s := s) (y := y) (m := m) h)
          have HC7 := Lib.hid (fun h1 h2 h3 h4 => step_settles (s := s) (y := y) (m := m) h1 h2 h3 h4)
          rw [HSS.out] at HC4 HC6 HC7
          have hro := HF1.out.row_ HMF.out
          rw [hrl, show heardF s' (m : Int) = b from hb] at hro
          have HRO := Lib.hid hro
          rw [hrl] at HL1 HC1 HC3 HC6 HC7
          rw [hu] at HL2 HC2 HC3 HC4 HC5 HC6 HC7
          rw [hu0] at HL3 HC4 HC6
          rw [hb] at HC5 HC7
          have HWA := Lib.hid (show ∃ A c, wr.cell? ⟨X, m, none⟩ = some (.slice A u0.length c) ∧ wr.frozen? ⟨X, m, none⟩ = false ∧ DotsAt wr A u0 from by
            have h := HW1.out.at (n := m) hm1 (by omega)
            rw [if_neg (by omega), hu0] at h
            exact h)
          have HUE := Lib.hid hu
          clear hwf hro hrl hu0 hb hu
          go_wp2_with (fail)
          refine HRO.out.mono ?_
          rintro r v1 ⟨A1, c1, rfl, ho, hk⟩
          have HO1 := Lib.hid ho
          have HF2 := Lib.hid ((Fob.ob _ _ _).fresh HF1.out hk)
          have HK1 := Lib.hid hk
          have hus := HF2.out.usable_ HMF.out
          rw [HUE.out] at hus
          have HUS := Lib.hid hus
          clear ho hk hus HRO HF1
          go_wp2_with (fail)
          refine HUS.out.mono ?_
          rintro r v2 ⟨A2, c2, rfl, ho, hk⟩
          have HO2 := Lib.hid (own_base ho (Nat.le_trans HK1.out.size (Nat.le_refl _)))
          have HD1 := Lib.hid (DotsAt.of_own (hk.own HO1.out fun _ _ => id))
          have HD2 := Lib.hid (DotsAt.of_own ho)
          have HK2 := Lib.hid (HK1.out.trans hk fun _ _ e => e)
          clear ho hk HUS HF2 HO1 HK1
          obtain ⟨A0, c0, y0, -, hd0⟩ := HWA.out
          have HY0 := Lib.hid y0
          have HD0 := Lib.hid (hd0.fresh HK2.out)
          clear y0 hd0 HWA
          have hle1 := HL1.out
          have hle2 := HL2.out
          have hle3 := HL3.out
          go_upto_region 17 with (fail)
          go_cut [104] (fun v wx => v = .bool false ∧ Kept (fun _ => False) v2 wx)
          case first =>
            as_aux_lemma =>
            have hc1 := RCheck_any A1 rl c1 v2 HD1.out (by omega)
            rw [HC1.out] at hc1
            have HQ1 := Lib.hid hc1
            clear hc1
            go_wp2_with (fail)
            refine HQ1.out.mono ?_
            unfold IntPost
            rintro r v3 ⟨rfl, hk⟩
            have HK3 := Lib.hid hk
            have hc1 := RCheck_any A2 u c2 v3 (HD2.out.fresh hk) (by omega)
            rw [HC2.out] at hc1
            have HQ2 := Lib.hid hc1
            clear hc1 hk HQ1
            go_wp2_with (fail)
            refine HQ2.out.mono ?_
            unfold IntPost
            rintro r v4 ⟨rfl, hk⟩
            have HK4 := Lib.hid (HK3.out.trans hk fun _ _ e => e)
            have hc1 := RCovers_any A1 A2 rl u c1 c2 v4 (HD1.out.fresh HK4.out) (HD2.out.fresh HK4.out) (by omega) (by omega)
            rw [HC3.out] at hc1
            have HQ3 := Lib.hid hc1
            clear hc1 hk HQ2 HK3
            go_wp2_with (fail)
            refine HQ3.out.mono ?_
            unfold BoolPost
            rintro r v5 ⟨rfl, hk⟩
            have HK5 := Lib.hid (HK4.out.trans hk fun _ _ e => e)
            have y0 : v5.cell? ⟨X, m, none⟩ = some (.slice A0 u0.length c0) := Kept.cellF (HK2.out.trans HK5.out fun _ _ e => e) HY0.out
            have hc1 := RCovers_any A2 A0 u u0 c2 c0 v5 (HD2.out.fresh HK5.out) (HD0.out.fresh HK5.out) (by omega) (by omega)
            rw [HC4.out] at hc1
            have HQ4 := Lib.hid hc1
            clear hc1 hk HQ3 HK4
            go_wp2_with (fail)
            refine HQ4.out.mono ?_
            unfold BoolPost
            rintro r v6 ⟨rfl, hk⟩
            have HK6 := Lib.hid (HK5.out.trans hk fun _ _ e => e)
            clear hk HQ4 HK5 y0
            cases b with
            | true =>
              go_wp2_with (fail)
              go_meet
              case rel => exact ⟨rfl, HK6.out⟩
            | false =>
              obtain rfl := HC5.out rfl
              go_wp2_with (fail)
              go_meet
              case rel => exact ⟨rfl, HK6.out⟩
          case rest =>
          obtain ⟨rfl, hk⟩ := hcut
          have HK3 := Lib.hid hk
          clear hk
          obtain ⟨v3, rfl⟩ : ∃ v3 : World, v3 = wc := ⟨_, rfl⟩
          go_upto_region 19 with (fail)
          go_cut [128] (fun v wx => v = .bool false ∧ Kept (fun _ => False) v3 wx)
          case first =>
            as_aux_lemma =>
            have y0 : v3.cell? ⟨X, m, none⟩ = some (.slice A0 u0.length c0) := Kept.cellF (HK2.out.trans HK3.out fun _ _ e => e) HY0.out
            have hve := vectors_any A2 A0 u u0 c2 c0 v3 (HD2.out.fresh HK3.out) (HD0.out.fresh HK3.out) (by omega)
            by_cases he : u = u0
            · rw [decide_eq_true he] at hve
              have HVE := Lib.hid hve
              clear hve
              have HE := Lib.hid he
              clear he
              go_wp2_with (fail)
              refine HVE.out.mono ?_
              unfold SamePost
              rintro r v4 ⟨rfl, hk⟩
              have HK4 := Lib.hid hk
              clear hk HVE y0
              go_wp2_with (fail)
              go_meet
              case rel => exact ⟨rfl, HK4.out⟩
            · rw [decide_eq_false he] at hve
              have HVE := Lib.hid hve
              obtain ⟨g1, g2, g3⟩ := HC6.out he
              have HG1 := Lib.hid g1
              have HG3 := Lib.hid g3
              subst g2
              clear hve g1 g3 he
              go_wp2_with (fail)
              refine HVE.out.mono ?_
              unfold SamePost
              rintro r v4 ⟨rfl, hk⟩
              have HK4 := Lib.hid hk
              have HB4 := Lib.hid ((HBM.out.kept HK2.out id).kept (HK3.out.trans hk fun _ _ e => e) id)
              have z0 : v4.cell? ⟨Z, 0, none⟩ = some (.int .i64 2) := (HB4.out.cell 0).trans (by rw [← HG1.out]; rfl)
              have hve := vectors_any A2 A1 u u c2 c1 v4 ((HD2.out.fresh HK3.out).fresh hk) ((HD1.out.fresh HK3.out).fresh hk) (by omega)
              rw [decide_eq_true rfl] at hve
              have HVF := Lib.hid hve
              clear hk HVE y0 hve
              go_wp2_with (fail)
              refine HVF.out.mono ?_
              unfold SamePost
              rintro r v5 ⟨rfl, hk⟩
              have HK5 := Lib.hid (HK4.out.trans hk fun _ _ e => e)
              have HB5 := Lib.hid (HB4.out.kept hk id)
              have z2 : v5.cell? ⟨Z, 2, none⟩ = some (.slice y.vA y.v.length y.vc) := (HB5.out.cell 2).trans rfl
              have hc1 := RCovers_any y.vA A2 y.v u y.vc c2 v5 (HOX.out.v.fresh (HFM.out v5 ((HK2.out.trans HK3.out fun _ _ e => e).trans HK5.out fun _ _ e => e))) ((HD2.out.fresh HK3.out).fresh HK5.out) (by have := HOX.out.vl; omega) (by omega)
              rw [HG3.out] at hc1
              have HQ1 := Lib.hid hc1
              clear hk HVF hc1 HB4 z0 HK4
              go_wp2_with (fail)
              refine HQ1.out.mono ?_
              unfold BoolPost
              rintro r v6 ⟨rfl, hk⟩
              have HK6 := Lib.hid (HK5.out.trans hk fun _ _ e => e)
              clear hk HQ1 HK5 z2
              go_wp2_with (fail)
              go_meet
              case rel => exact ⟨rfl, HK6.out⟩
          case rest =>
          obtain ⟨rfl, hk⟩ := hcut
          have HK4 := Lib.hid (HK3.out.trans hk fun _ _ e => e)
          clear hk HC1 HC2 HC3 HC4 HC5 HC6 HK3
          obtain ⟨v4, rfl⟩ : ∃ v4 : World, v4 = wc := ⟨_, rfl⟩
          have HB4 := Lib.hid ((HBM.out.kept HK2.out id).kept HK4.out id)
          go_upto_region 21 with (fail)
          go_cut [152] (fun v wx => v = .bool false ∧ Kept (fun _ => False) v4 wx)
          case first =>
            as_aux_lemma =>
            obtain ⟨kd, hkd⟩ : ∃ kd, y.kind = kd := ⟨_, rfl⟩
            have z0 : v4.cell? ⟨Z, 0, none⟩ = some (.int .i64 kd) := (HB4.out.cell 0).trans (by rw [← hkd]; rfl)
            have z2 : v4.cell? ⟨Z, 2, none⟩ = some (.slice y.vA y.v.length y.vc) := (HB4.out.cell 2).trans rfl
            have HDY := Lib.hid (HOX.out.v.fresh (HFM.out v4 (HK2.out.trans HK4.out fun _ _ e => e)))
            have hvl := HOX.out.vl
            by_cases h2 : kd = 2
            case' neg =>
              have e2 : (kd == 2) = false := beq_eq_false_iff_ne.mpr h2
              clear h2 hkd
              go_wp2_with (fail)
              go_meet
              case rel => exact ⟨rfl, Kept.refl _ _⟩
            subst h2
            have hc1 := RCheck_any y.vA y.v y.vc v4 HDY.out (by omega)
            obtain ⟨E, hE⟩ : ∃ E, checkV y.v = E := ⟨_, rfl⟩
            rw [hE] at hc1
            have HQ1 := Lib.hid hc1
            have HE := Lib.hid hE
            clear hc1 hE
            go_wp2_with (fail)
            refine HQ1.out.mono ?_
            unfold IntPost
            rintro r v5 ⟨rfl, hk⟩
            have HK5 := Lib.hid hk
            have z3 : v5.cell? ⟨Z, 2, none⟩ = some (.slice y.vA y.v.length y.vc) := Kept.cellF hk z2
            clear hk HQ1 z0 z2
            by_cases hE0 : E = 0
            case' neg =>
              have e3 : (E == 0) = false := beq_eq_false_iff_ne.mpr hE0
              clear hE0
              go_wp2_with (fail)
              go_meet
              case rel => exact ⟨rfl, HK5.out⟩
            subst hE0
            cases b with
            | false =>
              go_wp2_with (fail)
              go_meet
              case rel => exact ⟨rfl, HK5.out⟩
            | true =>
            have hc1 := RCovers_any y.vA A1 y.v rl y.vc c1 v5 (HDY.out.fresh HK5.out) ((HD1.out.fresh HK4.out).fresh HK5.out) (by omega) (by omega)
            obtain ⟨cv, hcv⟩ : ∃ cv, coversR (says y.v) (says rl) = cv := ⟨_, rfl⟩
            rw [hcv] at hc1
            have HQ1 := Lib.hid hc1
            have HCV := Lib.hid hcv
            clear hc1 hcv
            go_wp2_with (fail)
            refine HQ1.out.mono ?_
            unfold BoolPost
            rintro r v6 ⟨rfl, hk⟩
            have HK6 := Lib.hid (HK5.out.trans hk fun _ _ e => e)
            clear hk HQ1 z3
            cases cv with
            | false =>
              go_wp2_with (fail)
              go_meet
              case rel => exact ⟨rfl, HK6.out⟩
            | true =>
            obtain rfl := HC7.out hkd HE.out (by first | rfl | trivial) HCV.out
            have hve := vectors_any A2 A1 u u c2 c1 v6 ((HD2.out.fresh HK4.out).fresh HK6.out) ((HD1.out.fresh HK4.out).fresh HK6.out) (by omega)
            rw [decide_eq_true rfl] at hve
            have HVF := Lib.hid hve
            clear hve
            go_wp2_with (fail)
            refine HVF.out.mono ?_
            unfold SamePost
            rintro r v7 ⟨rfl, hk⟩
            have HK7 := Lib.hid (HK6.out.trans hk fun _ _ e => e)
            clear hk HVF
            go_wp2_with (fail)
            go_meet
            case rel => exact ⟨rfl, HK7.out⟩
          case rest =>
          obtain ⟨rfl, hk⟩ := hcut
          have HK5 := Lib.hid ((HK2.out.trans HK4.out fun _ _ e => e).trans hk fun _ _ e => e)
          have HO5 := Lib.hid ((HK4.out.trans hk fun _ _ e => e).own HO2.out fun _ _ => id)
          clear hk HC7 HO2 HK4 HD1 HD2 HD0
          obtain ⟨v5, rfl⟩ : ∃ v5 : World, v5 = wc := ⟨_, rfl⟩
          have y0 : v5.cell? ⟨X, m, none⟩ = some (.slice A0 u0.length c0) := Kept.cellF HK5.out HY0.out
          obtain ⟨H, h1, h2, h3, h4⟩ := HPM.out.right (Fob.ob _ _ _) (Was.ob _ _) (fun k e => Nat.le_trans HPW5.out (Nat.le_trans HKM.out.size e))
          have hws := ((Was.ob _ _).fresh h1 HK5.out).set (n := m) HO5.out (fun k e => ⟨h2 k (HO5.out.lt k e).1, fun e' => by have := HW1.out.lt; have := (HO5.out.lt k e).1; omega⟩)
          have hXH : H X := by obtain ⟨es, g0, g1, g2, g3⟩ := h1; exact g2
          obtain ⟨hp, hkk⟩ := h4 _ _ (Was.ob _ _) hws.1 ((HK5.out.more fun _ _ e => e.elim).trans hws.2 fun k _ e => by have e' : k = X := e; rw [e']; exact hXH)
          have HPF := Lib.hid hp
          have HKF := Lib.hid (HKM.out.trans ((HK5.out.more (T := fun j => j = X) fun _ _ e => e.elim).trans hws.2 fun _ _ e => e) fun _ _ e => e)
          have f0 : v5.frozen? ⟨X, m, none⟩ = false := by
            obtain ⟨A', c', -, h, -⟩ := ((Was.ob _ _).fresh HW1.out HK5.out).at (n := m) hm1 (by omega)
            exact h
          clear h1 h2 h3 h4 hws hXH hp hkk HO5 HK5 HPM HW1 HKM
          go_wp2_with (fail)
          go_roundw
          case rel =>
            refine ⟨m + 1, by go_num, by omega, by omega, HPF.out.snd_mono fun G h => h.congr fun i e1 e2 => ?_, HKF.out⟩
            show (if i = m then u else usableF (if i < m then s' else s) i) = usableF (if i < m + 1 then s' else s) i
            by_cases e : i = m
            · rw [if_pos e, if_pos (by omega), e, HUE.out]
            · rw [if_neg e]
              by_cases e3 : i < m
              · rw [if_pos e3, if_pos (by omega)]
              · rw [if_neg e3, if_neg (by omega)]
          case measure => simp [intOf]; omega
        obtain rfl : m = 17 := by omega
        go_wp2_with (fail)
        go_roundw
        case rel => exact ⟨k + 1, by go_num, by omega, by rw [HST'.out]; exact HPM.out.snd_mono fun G h => h.congr fun i e1 e2 => by rw [if_pos (by omega)], HK5.out.trans HKM.out fun j _ e => by have := HXP.out; omega⟩
        case measure => simp [intOf]; omega
    obtain rfl : k = l.length := by omega
    have HFO := Lib.hid (HPR.out.fst (Fob.ob _ _ _))
    have HSO := Lib.hid (playF_ok l)
    rw [List.take_length] at HFO
    clear hlt hk HPR HSC HOK HA3 HPS3 HK
    obtain ⟨s, hs⟩ : ∃ s, playF [] l = s := ⟨_, rfl⟩
    rw [hs] at HFO HSO
    clear hs
    have hcl : 17 * l.length ≤ 1360 := by omega
    obtain ⟨N, hN⟩ : ∃ N, 17 * l.length = N := ⟨_, rfl⟩
    rw [hN] at HFO
    clear hN hla hla' hcl
    obtain ⟨w4, rfl⟩ : ∃ w4 : World, w4 = wr := ⟨_, rfl⟩
    have HFR := Lib.hid (HFO.out.frontier_ B ms d self C own e (HMS.out.fresh HA.out) (HOW.out.fresh HA.out) (by omega) (by omega) HWF.out)
    obtain ⟨fr, hfr⟩ : ∃ fr, frontier s ms self own = fr := ⟨_, rfl⟩
    rw [hfr] at HFR
    have HFE := Lib.hid hfr
    clear hfr
    go_wp2_with (fail)
    refine HFR.out.mono ?_
    rintro r v1 ⟨A1, c1, rfl, ho1, hk⟩
    have HD1 := Lib.hid (DotsAt.of_own ho1)
    have HA1 := Lib.hid (HA.out.trans hk fun _ _ e => e)
    have HF1 := Lib.hid ((Fob.ob _ _ _).fresh HFO.out hk)
    clear ho1 hk HFR HFO HA
    have hc1 := RCheck_any C own e v1 (HOW.out.fresh HA1.out) (by omega)
    obtain ⟨E, hE⟩ : ∃ E, checkV own = E := ⟨_, rfl⟩
    rw [hE] at hc1
    have HQ1 := Lib.hid hc1
    have HE := Lib.hid hE
    clear hc1 hE
    go_wp2_with (fail)
    refine HQ1.out.mono ?_
    unfold IntPost
    rintro r v2 ⟨rfl, hk⟩
    have HD2 := Lib.hid (HD1.out.fresh hk)
    have HA2 := Lib.hid (HA1.out.trans hk fun _ _ e => e)
    have HF2 := Lib.hid ((Fob.ob _ _ _).fresh HF1.out hk)
    clear hk HQ1 HD1 HA1 HF1
    by_cases hE0 : E = 0
    case' neg =>
      as_aux_lemma =>
      have e3 : (E == 0) = false := beq_eq_false_iff_ne.mpr hE0
      have e4 : (E != 0) = true := by simp [hE0]
      obtain rfl : fr = [] := by rw [← HFE.out]; unfold frontier; rw [if_neg (by rw [HE.out]; exact hE0)]
      clear hE0
      go_wp2_with (fail)
      refine (Known14_any v2).mono ?_
      rintro r wk ⟨rfl, hk⟩
      have HKF := Lib.hid (HA2.out.trans hk fun _ _ e => e)
      clear hk
      go_wp2_with (fail)
      go_ret
      exact ⟨rfl, HKF.out⟩
    subst hE0
    have HFF := Lib.hid (show frontF s own self ms = fr by rw [← HFE.out]; unfold frontier; rw [if_pos HE.out])
    have HLF := Lib.hid (show fr.length ≤ 20000 from by rw [← HFF.out]; exact frontF_len (by omega) ms own (by omega))
    have hlf := HLF.out
    have hc1 := RCheck_any A1 fr c1 v2 HD2.out (by omega)
    rw [show checkV fr = 0 by rw [← HFF.out]; exact frontC HE.out ms] at hc1
    have HQ1 := Lib.hid hc1
    clear hc1
    go_wp2_with (fail)
    refine HQ1.out.mono ?_
    unfold IntPost
    rintro r v3 ⟨rfl, hk⟩
    have HD3 := Lib.hid (HD2.out.fresh hk)
    have HA3 := Lib.hid (HA2.out.trans hk fun _ _ e => e)
    have HF3 := Lib.hid ((Fob.ob _ _ _).fresh HF2.out hk)
    clear hk HQ1 HD2 HA2 HF2
    have hc1 := RCovers_any C A1 own fr e c1 v3 (HOW.out.fresh HA3.out) HD3.out (by omega) (by omega)
    rw [show coversR (says own) (says fr) = true by rw [← HFF.out]; exact frontF_own ms] at hc1
    have HQ1 := Lib.hid hc1
    clear hc1
    go_wp2_with (fail)
    refine HQ1.out.mono ?_
    unfold BoolPost
    rintro r v4 ⟨rfl, hk⟩
    have HD4 := Lib.hid (HD3.out.fresh hk)
    have HA4 := Lib.hid (HA3.out.trans hk fun _ _ e => e)
    have HF4 := Lib.hid ((Fob.ob _ _ _).fresh HF3.out hk)
    clear hk HQ1 HD3 HA3 HF3
    go_wp2_with (fail)
    go_loopw [20, 21, 22, 23] (fun n v21 v22 v23 wr => ∃ m : Nat, n = .int .i64 m ∧ 1 ≤ m ∧ m ≤ 17 ∧ Kept (fun _ => False) v4 wr) (fun n _ _ _ _ => 17 - (intOf n).toNat)
    case atStart => exact ⟨1, rfl, Nat.le_refl _, by omega, Kept.refl _ _⟩
    case round =>
      obtain ⟨m, rfl, hm1, hm2, hkk⟩ := hrel
      have HK := Lib.hid hkk
      clear hkk
      by_cases hlm : m ≤ 16
      case' pos =>
        as_aux_lemma =>
        have hc1 := RGet_any C own e (m : Int) wr (HOW.out.fresh (HA4.out.trans HK.out fun _ _ e => e)) (by omega)
        rw [getV_yes (by omega)] at hc1
        have HQ1 := Lib.hid hc1
        clear hc1
        go_wp2_with (fail)
        refine HQ1.out.mono ?_
        unfold IntPost
        rintro r q1 ⟨rfl, hk⟩
        have HK1 := Lib.hid (HK.out.trans hk fun _ _ e => e)
        clear hk HQ1 HK
        go_wp2_with (fail)
        obtain ⟨L0, hL0⟩ : ∃ L0, rg (says own) m = L0 := ⟨_, rfl⟩
        rw [hL0]
        have HL0 := Lib.hid hL0
        clear hL0
        go_loopw [21, 22, 23] (fun v21 i v23 wr => ∃ (k : Nat) (L : Int), v21 = .int .i64 L ∧ i = .int .i64 k ∧ k ≤ ms.length ∧ L = rg (says (frontF s own self (ms.take k))) m ∧ Kept (fun _ => False) v4 wr) (fun _ i _ _ => ms.length - (intOf i).toNat)
        case atStart => exact ⟨0, L0, rfl, rfl, Nat.zero_le _, HL0.out.symm, HK1.out⟩
        case round =>
          obtain ⟨k, L, rfl, rfl, hk, hL, hkk⟩ := hrel
          have HL := Lib.hid hL
          have HK2 := Lib.hid hkk
          have HA5 := Lib.hid (HA4.out.trans hkk fun _ _ e => e)
          clear hL hkk HK1
          by_cases hlk : k < ms.length
          case' pos =>
            as_aux_lemma =>
            have hk0 : (0 : Int) ≤ (k : Int) := by omega
            have hkn : (k : Int) < (ms.length : Int) := by omega
            obtain ⟨ad, hAd, t0⟩ := HMS.out.fresh HA5.out k hlk
            subst hAd
            have HNX := Lib.hid (fun h => least_self (s := s) (own := own) (self := self) (ms := ms) (k := k) hlk h m)
            have HNY := Lib.hid (fun h => least_other (s := s) (own := own) (self := self) (ms := ms) (k := k) hlk h (n := m) (by omega))
            have HXW := Lib.hid (HWF.out _ (List.getElem_mem hlk))
            obtain ⟨x, hx⟩ : ∃ x, ms[k] = x := ⟨_, rfl⟩
            rw [hx] at t0 HNX HNY HXW
            clear hx
            by_cases hxs : x = self
            · have e1 : (x == self) = true := beq_iff_eq.2 hxs
              have HE2 := Lib.hid (HNX.out hxs)
              clear HNX HNY hxs
              go_wp2_with (fail)
              go_roundw
              case rel => exact ⟨k + 1, L, rfl, by go_num, by omega, by rw [HE2.out, HL.out], HK2.out⟩
              case measure => simp [intOf]; omega
            · have e1 : (x == self) = false := beq_eq_false_iff_ne.mpr hxs
              have HE2 := Lib.hid (HNY.out hxs)
              clear HNX HNY hxs
              have hus := ((Fob.ob _ _ _).fresh HF4.out HK2.out).usable_ HXW.out
              have HLU := Lib.hid (usableF_len HF4.out.ok x)
              obtain ⟨u, hu⟩ : ∃ u, usableF s x = u := ⟨_, rfl⟩
              rw [hu] at hus HE2 HLU
              have HUS := Lib.hid hus
              clear hus hu
              go_wp2_with (fail)
              refine HUS.out.mono ?_
              rintro r q2 ⟨A2, c2, rfl, ho2, hk2⟩
              have HK3 := Lib.hid (HK2.out.trans hk2 fun _ _ e => e)
              have hc1 := RGet_any A2 u c2 (m : Int) q2 (DotsAt.of_own ho2) (by have := HLU.out; omega)
              rw [getV_yes (by omega)] at hc1
              obtain ⟨kv, hkv⟩ : ∃ kv, rg (says u) m = kv := ⟨_, rfl⟩
              rw [hkv] at hc1 HE2
              have HQ1 := Lib.hid hc1
              clear hc1 hkv ho2 hk2 HUS t0
              go_wp2_with (fail)
              refine HQ1.out.mono ?_
              unfold IntPost
              rintro r q3 ⟨rfl, hk3⟩
              have HK4 := Lib.hid (HK3.out.trans hk3 fun _ _ e => e)
              rw [← HL.out] at HE2
              clear hk3 HQ1 HK3
              by_cases hlv : kv < L
              · go_wp2_with (fail)
                go_roundw
                case rel => exact ⟨k + 1, kv, rfl, by go_num, by omega, by rw [HE2.out]; omega, HK4.out⟩
                case measure => simp [intOf]; omega
              · go_wp2_with (fail)
                go_roundw
                case rel => exact ⟨k + 1, L, rfl, by go_num, by omega, by rw [HE2.out]; omega, HK4.out⟩
                case measure => simp [intOf]; omega
          obtain rfl : k = ms.length := by omega
          rw [List.take_length, HFF.out] at HL
          obtain ⟨q2, rfl⟩ : ∃ q2 : World, q2 = wr := ⟨_, rfl⟩
          have hc1 := RGet_any A1 fr c1 (m : Int) q2 (HD4.out.fresh HK2.out) (by omega)
          rw [getV_yes (by omega), ← HL.out] at hc1
          have HQ1 := Lib.hid hc1
          clear hc1
          go_wp2_with (fail)
          refine HQ1.out.mono ?_
          unfold IntPost
          rintro r q3 ⟨rfl, hk3⟩
          have HK3 := Lib.hid (HK2.out.trans hk3 fun _ _ e => e)
          have e5 : (L != L) = false := by simp
          clear hk3 HQ1
          go_wp2_with (fail)
          go_roundw
          case rel => exact ⟨m + 1, by go_num, by omega, by omega, HK3.out⟩
          case measure => simp [intOf]; omega
      obtain rfl : m = 17 := by omega
      obtain ⟨w5, rfl⟩ : ∃ w5 : World, w5 = wr := ⟨_, rfl⟩
      have HA5 := Lib.hid (HA4.out.trans HK.out fun _ _ e => e)
      have HD5 := Lib.hid (HD4.out.fresh HK.out)
      have HF5 := Lib.hid ((Fob.ob _ _ _).fresh HF4.out HK.out)
      clear HA4 HD4 HF4 HK hlm hm1 hm2
      have hls : IntKind.i64.wrap ((ms.length : Int) - 1) = (ms.length : Int) - 1 := IntWalk.i64_in _ ⟨by omega, by omega⟩
      obtain ⟨z0, hz0⟩ : ∃ z0 : Int, (ms.length : Int) - 1 = z0 := ⟨_, rfl⟩
      have HZ0 := Lib.hid hz0
      rw [hz0] at hls
      clear hz0
      go_wp2_with (at_builtin; refine Hid.out ?_)
      refine Lib.hid ?_
      refine wpList_append_new eltInts rfl _ _ rfl w5.heap.size _ 0 [] rfl (World.ownsRow_nil _ _ _ _) 1 1 rfl rfl rfl (by omega) (Nat.le_refl _) ?_
      intro LA lc w6 HO6 HK6 _
      have HO6 := Lib.hid (show w6.ownsRow w5.heap.size 3 1 (.slice LA (more :: dup (ms.drop ms.length).reverse).length lc) (more :: dup (ms.drop ms.length).reverse).length ((more :: dup (ms.drop ms.length).reverse).map encZ) from by rw [List.drop_length]; exact HO6.out)
      have HK6 := Lib.hid (HK6.out.more (T := fun _ => False) fun k _ e => by cases e)
      rw [show Value.slice LA (0 + 1) lc = .slice LA (more :: dup (ms.drop ms.length).reverse).length lc by rw [List.drop_length]; rfl]
      go_wp2_with (fail)
      go_loopw [24, 25] (fun v24 i wr => ∃ (z : Int) (m : Nat) (LA : Option Addr) (lc : Nat), v24 = .slice LA (more :: dup (ms.drop m).reverse).length lc ∧ i = .int .i64 z ∧ z = (m : Int) - 1 ∧ m ≤ ms.length ∧ wr.ownsRow w5.heap.size 3 1 (.slice LA (more :: dup (ms.drop m).reverse).length lc) (more :: dup (ms.drop m).reverse).length ((more :: dup (ms.drop m).reverse).map encZ) ∧ Kept (fun _ => False) w5 wr) (fun _ i _ => (intOf i + 1).toNat)
      case atStart => exact ⟨z0, ms.length, LA, lc, by rw [List.drop_length]; rfl, by first | rfl | rw [HZ0.out], HZ0.out.symm, Nat.le_refl _, HO6.out, HK6.out⟩
      case round =>
        obtain ⟨z, m, LB, lb, rfl, rfl, hz, hm', hown, hkk⟩ := hrel
        have HO := Lib.hid hown
        have HK := Lib.hid hkk
        have HA6 := Lib.hid (HA5.out.trans hkk fun _ _ e => e)
        clear hown hkk HO6 HK6 hls HZ0
        by_cases hz1 : 0 ≤ z
        case' pos =>
          as_aux_lemma =>
          obtain ⟨j, rfl⟩ : ∃ j : Nat, z = j := ⟨z.toNat, by omega⟩
          obtain rfl : m = j + 1 := by omega
          have hj : j < ms.length := hm'
          have hjn : (j : Int) < (ms.length : Int) := by omega
          have HDB := Lib.hid (dup_back hj)
          obtain ⟨ad, hAd, t0⟩ := HMS.out.fresh HA6.out j hj
          subst hAd
          obtain ⟨x, hx⟩ : ∃ x, ms[j] = x := ⟨_, rfl⟩
          rw [hx] at t0 HDB
          have HWM := Lib.hid (show (ad.add j).block < w5.heap.size from by
            obtain ⟨ad', e', t'⟩ := HMS.out.fresh HA5.out j hj
            injection e' with e'
            rw [e']
            exact World.block_lt_of_cell? _ _ t')
          obtain ⟨L, hL⟩ : ∃ L, more :: dup (ms.drop (j + 1)).reverse = L := ⟨_, rfl⟩
          have HLL := Lib.hid (show L.length ≤ 81 from by rw [← hL]; have := dup_len (ms.drop (j + 1)).reverse; simp only [List.length_cons, List.length_reverse, List.length_drop] at *; omega)
          have HDB := Lib.hid (show more :: dup (ms.drop j).reverse = L ++ [x, x] by rw [HDB.out, ← hL]; rfl)
          rw [hL] at HO ⊢
          clear hz hx hL
          have hll := HLL.out
          go_upto_region 47 with (fail)
          refine wp_region_held_drew (S := fun Wz => Wz.cell? (ad.add j) = some (.int .i64 x)) (by kernel_rfl) t0 fun hS => ?_
          have HOD := Lib.hid ((Kept.refl (fun _ => False) wr).drew.own HO.out fun _ _ => id)
          have HKD := Lib.hid (HK.out.trans (Kept.refl (fun _ => False) wr).drew fun _ _ e => e)
          generalize wr.drew = w7 at hS HOD HKD ⊢
          refine held_takeTo 226 (i := 0) (v := .slice LB L.length lb) rfl rfl (by kernel_rfl) (by kernel_rfl) (by kernel_rfl) (fun _ _ _ h => h) rfl hS (fun Wz hW => by go_simp) ?_
          simp only [List.setIfInBounds_toArray, List.set_cons_zero, List.set_cons_succ]
          refine held_takeTo 227 (i := 1) (v := .slice (some ad) ms.length d) rfl rfl (by kernel_rfl) (by kernel_rfl) (by kernel_rfl) (fun _ _ _ h => h) rfl hS (fun Wz hW => by go_simp) ?_
          simp only [List.setIfInBounds_toArray, List.set_cons_zero, List.set_cons_succ]
          refine held_takeTo 228 (i := 2) (v := .int .i64 (j : Int)) rfl rfl (by kernel_rfl) (by kernel_rfl) (by kernel_rfl) (fun _ _ _ h => h) rfl hS (fun Wz hW => by go_simp) ?_
          simp only [List.setIfInBounds_toArray, List.set_cons_zero, List.set_cons_succ]
          refine held_takeTo 229 (i := 3) (v := .pointer (some (ad.add j))) rfl rfl (by kernel_rfl) (by kernel_rfl) (by kernel_rfl) (fun _ _ _ h => h) rfl hS (fun Wz hW => by go_simp) ?_
          simp only [List.setIfInBounds_toArray, List.set_cons_zero, List.set_cons_succ]
          refine held_takeTo 230 (i := 4) (v := .int .i64 x) rfl rfl (by kernel_rfl) (by kernel_rfl) (by kernel_rfl) (fun _ _ _ h => h) rfl hS (fun Wz hW => by (have hc : Wz.cell? (ad.add j) = some (.int .i64 x) := hW; go_simp)) ?_
          simp only [List.setIfInBounds_toArray, List.set_cons_zero, List.set_cons_succ]
          refine held_takeTo 231 (i := 5) (v := .slice (some ad) ms.length d) rfl rfl (by kernel_rfl) (by kernel_rfl) (by kernel_rfl) (fun _ _ _ h => h) rfl hS (fun Wz hW => by go_simp) ?_
          simp only [List.setIfInBounds_toArray, List.set_cons_zero, List.set_cons_succ]
          refine held_takeTo 232 (i := 6) (v := .int .i64 (j : Int)) rfl rfl (by kernel_rfl) (by kernel_rfl) (by kernel_rfl) (fun _ _ _ h => h) rfl hS (fun Wz hW => by go_simp) ?_
          simp only [List.setIfInBounds_toArray, List.set_cons_zero, List.set_cons_succ]
          refine held_takeTo 233 (i := 7) (v := .pointer (some (ad.add j))) rfl rfl (by kernel_rfl) (by kernel_rfl) (by kernel_rfl) (fun _ _ _ h => h) rfl hS (fun Wz hW => by go_simp) ?_
          simp only [List.setIfInBounds_toArray, List.set_cons_zero, List.set_cons_succ]
          refine held_takeTo 234 (i := 8) (v := .int .i64 x) rfl rfl (by kernel_rfl) (by kernel_rfl) (by kernel_rfl) (fun _ _ _ h => h) rfl hS (fun Wz hW => by (have hc : Wz.cell? (ad.add j) = some (.int .i64 x) := hW; go_simp)) ?_
          simp only [List.setIfInBounds_toArray, List.set_cons_zero, List.set_cons_succ]
          refine held_one (i := 9) (by kernel_rfl) rfl fun K hK => ?_
          go_wp2_with (fail)
          have hS1 : (w7.alloc (.cells #[.int .i64 x, .int .i64 x] 3)).cell? (ad.add j) = some (.int .i64 x) := Kept.cellF ((Kept.refl (fun _ => False) w7).alloc _) hS
          refine hK.out _ _ hS1 fun _ => ?_
          clear hK K
          refine held_one (i := 10) (by kernel_rfl) rfl fun K hK => ?_
          refine wpList_append_new eltInts rfl _ _ rfl w5.heap.size _ L.length (L.map encZ) rfl HOD.out 2 2 rfl rfl rfl (by omega) HKD.out.size ?_
          intro LC ld w8 HO8 HK8 _
          have hS2 : w8.cell? (ad.add j) = some (.int .i64 x) := by
            rw [World.cell?_of_block (w := w7) (HK8.out.block _ (World.block_lt_of_cell? w7 _ hS) (fun e => by have := (HOD.out.lt _ e).1; have := HWM.out; omega))]
            exact hS
          go_wp2_with (fail)
          refine hK.out _ _ hS2 fun _ => ?_
          clear hK K
          refine held_one (i := 11) (by kernel_rfl) rfl fun K hK => ?_
          go_wp2_with (fail)
          refine hK.out _ _ hS2 fun _ => ?_
          clear hK K
          refine wpAnyH_done (by kernel_rfl) ?_ _
          clear hS2
          have HO8 := Lib.hid (show w8.ownsRow w5.heap.size 3 1 (.slice LC (more :: dup (ms.drop j).reverse).length ld) (more :: dup (ms.drop j).reverse).length ((more :: dup (ms.drop j).reverse).map encZ) from by rw [HDB.out, List.length_append, List.map_append]; exact HO8.out)
          have HK8 := Lib.hid (HKD.out.trans HK8.out fun k e1 e2 => by have := (HOD.out.lt k e2).1; omega)
          rw [show Value.slice LC (L.length + 2) ld = .slice LC (more :: dup (ms.drop j).reverse).length ld by rw [HDB.out, List.length_append]; rfl]
          go_wp2_with (fail)
          go_roundw
          case rel => exact ⟨(j : Int) - 1, j, LC, ld, rfl, by go_num, rfl, by omega, HO8.out, HK8.out⟩
          case measure => simp [intOf]
        obtain rfl : m = 0 := by omega
        obtain ⟨w7, rfl⟩ : ∃ w7 : World, w7 = wr := ⟨_, rfl⟩
        have HF7 := Lib.hid ((Fob.ob _ _ _).fresh HF5.out HK.out)
        have HD7 := Lib.hid (HD5.out.fresh HK.out)
        have HWW := Lib.hid (show ∀ x ∈ dup ms.reverse, (Lit.int .i64 x).wf = true from fun x hx => HWF.out x (List.mem_reverse.1 (mem_dup.1 hx)))
        have HMO := Lib.hid (show frontF s own self (dup ms.reverse) = fr by rw [← HFF.out]; exact frontF_same HE.out (fun x hx => List.mem_reverse.1 (mem_dup.1 hx)) (fun x hx => mem_dup.2 (List.mem_reverse.2 hx)))
        have HMP := Lib.hid (show coversR (says fr) (says (frontF s own self (more :: dup ms.reverse))) = true by rw [← HMO.out]; exact frontF_more fun x hx => List.mem_cons_of_mem _ hx)
        have HLD := Lib.hid (show (dup ms.reverse).length ≤ 80 by rw [dup_len, List.length_reverse]; omega)
        have HO7 := Lib.hid (show w7.ownsRow w5.heap.size 3 1 (.slice LB (more :: dup ms.reverse).length lb) (more :: dup ms.reverse).length ((more :: dup ms.reverse).map encZ) from HO.out)
        rw [show (ms.drop 0).reverse = ms.reverse from rfl]
        clear HO HK HF5 HD5 HA5 hz hm'
        obtain ⟨M, hM⟩ : ∃ M, dup ms.reverse = M := ⟨_, rfl⟩
        rw [hM] at HWW HMO HMP HLD HO7 ⊢
        clear hM
        have hll := HLD.out
        have hfw := HF7.out.frontier_ LB (more :: M) lb self C own e (IntsAt.of_own HO7.out) (HOW.out.fresh HA6.out) (by rw [List.length_cons]; omega) (by omega) (fun x hx => (List.mem_cons.1 hx).elim (fun h => by rw [h]; exact HMW.out) (HWW.out x))
        rw [show frontier s (more :: M) self own = frontF s own self (more :: M) by unfold frontier; rw [if_pos HE.out]] at hfw
        have HLW := Lib.hid (show (frontF s own self (more :: M)).length ≤ 20000 from frontF_len (by omega) _ own (by omega))
        obtain ⟨fw, hfw2⟩ : ∃ fw, frontF s own self (more :: M) = fw := ⟨_, rfl⟩
        rw [hfw2] at hfw HMP HLW
        have HFW := Lib.hid hfw
        clear hfw hfw2
        obtain ⟨ml, hml⟩ : ∃ ml, (more :: M).length = ml := ⟨_, rfl⟩
        have HML := Lib.hid hml
        rw [hml] at HFW HO7 ⊢
        have HML1 := Lib.hid (show ml = M.length + 1 by rw [← hml]; rfl)
        have HCAP := Lib.hid (own_caps HO7.out)
        have hml2 : 1 ≤ ml := by rw [HML1.out]; omega
        clear hml
        have hlw := HLW.out
        go_wp2_with (fail)
        refine HFW.out.mono ?_
        rintro r w8 ⟨A2, c2, rfl, ho2, hk8⟩
        have HD8 := Lib.hid (DotsAt.of_own ho2)
        have HA8 := Lib.hid (HA6.out.trans hk8 fun _ _ e => e)
        have HF8 := Lib.hid ((Fob.ob _ _ _).fresh HF7.out hk8)
        have HE8 := Lib.hid (HD7.out.fresh hk8)
        have HO8 := Lib.hid (hk8.own HO7.out fun _ _ => id)
        clear ho2 hk8 HFW HA6 HF7 HD7 HO7
        have hc1 := RCovers_any A1 A2 fr fw c1 c2 w8 HE8.out HD8.out (by omega) (by omega)
        rw [HMP.out] at hc1
        have HQ1 := Lib.hid hc1
        clear hc1
        go_wp2_with (fail)
        refine HQ1.out.mono ?_
        unfold BoolPost
        rintro r w9 ⟨rfl, hk9⟩
        have HA9 := Lib.hid (HA8.out.trans hk9 fun _ _ e => e)
        have HF9 := Lib.hid ((Fob.ob _ _ _).fresh HF8.out hk9)
        have HE9 := Lib.hid (HE8.out.fresh hk9)
        have HO9 := Lib.hid (hk9.own HO8.out fun _ _ => id)
        clear hk9 HQ1 HA8 HF8 HE8 HO8 HD8
        have hms1 : (1 : Int) ≤ (ml : Int) := by omega
        have hms2 : (ml : Int) ≤ (lb : Int) := by have := HCAP.out; omega
        have HFV := Lib.hid (show ∀ A' c', IntsAt w9 A' M → Calls Try.prog 19 #[.pointer (some ⟨p, 0, none⟩), .slice A' (ml - 1) c', .int .i64 self, .slice C own.length e] w9 (FreshDots w9 fr) from fun A' c' hA' => by
          rw [show ml - 1 = M.length by rw [HML1.out]; rfl]
          have h := HF9.out.frontier_ A' M c' self C own e hA' (HOW.out.fresh HA9.out) (by omega) (by omega) HWW.out
          rwa [show frontier s M self own = fr by unfold frontier; rw [if_pos HE.out, HMO.out]] at h)
        have HI1 := Lib.hid (show lb = 1 → IntsAt w9 LB M from fun h => by
          obtain rfl : M = [] := List.eq_nil_of_length_eq_zero (by have := HCAP.out; have := HML1.out; omega)
          exact IntsAt.nil)
        have HI2 := Lib.hid (show IntsAt w9 (Option.map (fun x : Addr => (⟨x.block, x.off + 1, none⟩ : Addr)) LB) M from fun k hk => by
          obtain ⟨g, hA, -, hc, -⟩ := own_cells HO9.out (by omega)
          subst hA
          refine ⟨_, rfl, ?_⟩
          have h := hc (k + 1) (.int .i64 M[k]) (by simp [encZ, hk])
          rw [← h]
          congr 1
          show (⟨g, 0 + 1, none⟩ : Addr).add k = _
          unfold Addr.add
          split <;> simp_all <;> omega)
        clear HO9 HWW HMO HML HML1 HCAP
        go_wp2_with (fail)
        case inl =>
          as_aux_lemma =>
          refine (HFV.out _ _ (HI1.out (by assumption))).mono ?_
          rintro r w10 ⟨A3, c3, rfl, ho3, hk⟩
          have HD10 := Lib.hid (DotsAt.of_own ho3)
          have HE10 := Lib.hid (HE9.out.fresh hk)
          have HA10 := Lib.hid (HA9.out.trans hk fun _ _ e => e)
          have hve := vectors_any A3 A1 fr fr c3 c1 w10 HD10.out HE10.out (by omega)
          rw [decide_eq_true rfl] at hve
          have HVF := Lib.hid hve
          clear hve ho3 hk
          go_wp2_with (fail)
          refine HVF.out.mono ?_
          unfold SamePost
          rintro r w11 ⟨rfl, hk⟩
          have HA11 := Lib.hid (HA10.out.trans hk fun _ _ e => e)
          clear hk HVF HD10 HE10 HA10
          go_wp2_with (fail)
          refine (Known14_any w11).mono ?_
          rintro r wk ⟨rfl, hk⟩
          have HKF := Lib.hid (HA11.out.trans hk fun _ _ e => e)
          clear hk
          go_wp2_with (fail)
          go_ret
          exact ⟨rfl, HKF.out⟩
        case inr =>
          as_aux_lemma =>
          refine (HFV.out _ _ HI2.out).mono ?_
          rintro r w10 ⟨A3, c3, rfl, ho3, hk⟩
          have HD10 := Lib.hid (DotsAt.of_own ho3)
          have HE10 := Lib.hid (HE9.out.fresh hk)
          have HA10 := Lib.hid (HA9.out.trans hk fun _ _ e => e)
          have hve := vectors_any A3 A1 fr fr c3 c1 w10 HD10.out HE10.out (by omega)
          rw [decide_eq_true rfl] at hve
          have HVF := Lib.hid hve
          clear hve ho3 hk
          go_wp2_with (fail)
          refine HVF.out.mono ?_
          unfold SamePost
          rintro r w11 ⟨rfl, hk⟩
          have HA11 := Lib.hid (HA10.out.trans hk fun _ _ e => e)
          clear hk HVF HD10 HE10 HA10
          go_wp2_with (fail)
          refine (Known14_any w11).mono ?_
          rintro r wk ⟨rfl, hk⟩
          have HKF := Lib.hid (HA11.out.trans hk fun _ _ e => e)
          clear hk
          go_wp2_with (fail)
          go_ret
          exact ⟨rfl, HKF.out⟩
end Go.Proofs.Ythlejmpeigfdgaa
