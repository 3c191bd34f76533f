/- The walk of NetPlays: it is true. Conditions: the script lies in memory. -/
import Derived.Test.YtopcogogpbcbhaaNStp
import Derived.Test.YtopcogogpbcbhaaNOpL
namespace Go.Proofs.Ytopcogogpbcbhaa
open Go Go.RowKit

set_option maxRecDepth 100000 in
set_option maxHeartbeats 12800000 in
theorem Plays_walk (A : Option Addr) (c : Nat) (l : List Stn) (w : World) (h : ScnAt w A l) (hl : l.length ≤ 4611686018427387904) :
    Calls Try.prog 3 #[.slice A l.length c] w (KnownPost w) := by
  have HSC := Lib.hid h
  clear h
  go_enter Try.func3, Try.ntmps3
  go_wp2_with (fail)
  refine (Much20_any A l c w HSC.out.steps hl).mono ?_
  rintro r w1 ⟨rfl, hk⟩
  have HA1 := Lib.hid hk
  clear hk
  obtain ⟨bm, hbm⟩ : ∃ bm, muchN l = bm := ⟨_, rfl⟩
  rw [hbm]
  have HBM := Lib.hid hbm
  clear hbm
  cases bm with
  | true =>
    as_aux_lemma =>
    go_wp2_with (fail)
    refine (Known20_any w1).mono ?_
    rintro r w2 ⟨rfl, hk⟩
    have HK := Lib.hid (HA1.out.trans hk fun _ _ e => e)
    clear hk
    go_wp2_with (fail)
    go_ret
    exact ⟨rfl, HK.out⟩
  | false =>
  obtain ⟨hok, hll, -⟩ := HSC.out.ok HBM.out
  have HOK := Lib.hid hok
  have HNL := Lib.hid (show ∀ y ∈ l, y.dA = none → y.dc = 0 from fun y hy => (HSC.out.xs y hy).none)
  clear hok HBM hl
  go_wp2_with (fail)
  refine (Nw.new w1 w1.heap.size (Nat.le_refl _)).mono ?_
  rintro r w2 ⟨rfl, hn, hk⟩
  have HN2 := Lib.hid ((Nob.ob _ _).cut hn)
  have HA2 := Lib.hid (HA1.out.trans hk fun _ _ e => e)
  have HWP := Lib.hid HA1.out.size
  have HPS := Lib.hid hk.size
  clear hn hk HA1
  obtain ⟨p, hp⟩ : ∃ p, w1.heap.size = p := ⟨_, rfl⟩
  rw [hp] at HN2 HWP HPS ⊢
  clear hp
  go_wp2_with (fail)
  refine (Rw.new w2).mono ?_
  rintro r w3 ⟨rfl, hn, hk⟩
  have HP := Lib.hid (show Pair (Nob p ⟨0, []⟩) (Rob w2.heap.size ⟨0, []⟩) (fun k => p ≤ k) w3 from Pair.make (Nob.ob _ _) (Rob.ob _ _) ((Nob.ob _ _).fresh HN2.out hk) hn (fun k e1 e2 e3 => by omega) (fun k e => e.1) (fun k e => Nat.le_trans HPS.out e))
  have HA3 := Lib.hid (HA2.out.trans hk fun _ _ e => e)
  have HPS := Lib.hid (Nat.le_trans HPS.out hk.size)
  clear hn hk HA2 HN2
  obtain ⟨q, hq⟩ : ∃ q, w2.heap.size = q := ⟨_, rfl⟩
  rw [hq] at HP ⊢
  clear hq
  go_wp2_with (fail)
  go_loopw [5] (fun i wr => ∃ k : Nat, i = .int .i64 k ∧ k ≤ l.length ∧ Pair (Nob p (Nt.play ⟨0, []⟩ (l.take k))) (Rob q (Nt.play ⟨0, []⟩ (l.take k))) (fun k => p ≤ k) wr ∧ Kept (fun k => p ≤ k) w3 wr) (fun i _ => l.length - (intOf i).toNat)
  case atStart => exact ⟨0, rfl, Nat.zero_le _, HP.out, Kept.refl _ _⟩
  case round =>
    obtain ⟨k, rfl, hk, hn, hkk⟩ := hrel
    have HPR := Lib.hid hn
    have HK := Lib.hid hkk
    have HA := Lib.hid (HA3.out.trans hkk fun j hj e => by have := HWP.out; omega)
    have HPW := Lib.hid (Nat.le_trans HPS.out hkk.size)
    have hlast : (Nt.play ⟨0, []⟩ (l.take k)).last ≤ k := by
      have := Nt.play_last ⟨0, []⟩ (l.take k)
      rw [List.length_take] at this
      have e : (⟨0, []⟩ : Nt).last = 0 := rfl
      omega
    clear hn hkk HP
    by_cases hlt : k < l.length
    · obtain ⟨ad, rfl, x0, x1⟩ := HSC.out.steps.fresh HA.out k hlt
      have HST := Lib.hid (Nt.play_take ⟨0, []⟩ l k hlt)
      obtain ⟨y, hy⟩ : ∃ y, l[k] = y := ⟨_, rfl⟩
      have HOX := Lib.hid (show StnOk w y by rw [← hy]; exact HOK.out l[k] (List.getElem_mem hlt))
      have HNIL := Lib.hid (HNL.out y (by rw [← hy]; exact List.getElem_mem hlt))
      rw [hy] at x0 x1 HST
      have HX0 := Lib.hid x0
      have HX1 := Lib.hid x1
      clear x0 x1 hy
      obtain ⟨s0, hs0⟩ : ∃ s0, Nt.play ⟨0, []⟩ (l.take k) = s0 := ⟨_, rfl⟩
      rw [hs0] at HPR HST hlast
      clear hs0
      have hstep := Step20_any p q s0 y (fun k => p ≤ k) wr HPR.out (fun j e => Nat.le_trans HPW.out e) (by omega) (HOX.out.fresh HA.out) HNIL.out (fun W hk => HOX.out.b.fresh (HA.out.trans hk fun j hj e => by have := HWP.out; omega))
      have hl1 := s0.step_last y
      obtain ⟨s1, hs1⟩ : ∃ s1, (s0.step y).2 = s1 := ⟨_, rfl⟩
      rw [hs1] at hstep HST hl1
      clear hs1 HPR
      go_upto_region 10 with (fail)
      go_cut [34] (fun v wx => v = .bool false ∧ Pair (Nob p s1) (Rob q s1) (fun k => p ≤ k) wx ∧ Kept (fun k => p ≤ k) wr wx)
      case first =>
        as_aux_lemma =>
        go_wp2_with (refine load_stn rfl _ rfl _ rfl y HX0.out HX1.out ?_)
        refine hstep.mono ?_
        clear hstep
        rintro r w4 ⟨rfl, hp, hk4⟩
        have HP4 := Lib.hid hp
        have HK4 := Lib.hid hk4
        have HW4 := Lib.hid (Nat.le_trans HPW.out hk4.size)
        clear hp hk4 HX0 HX1
        obtain ⟨Ha, h1, h2, h3, h4⟩ := HP4.out.left (Rob.ob _ _) (Nob.ob _ _) (fun j e => Nat.le_trans HW4.out e)
        obtain ⟨Hb, g1, g2, g3, g4⟩ := HP4.out.right (Nob.ob _ _) (Rob.ob _ _) (fun j e => Nat.le_trans HW4.out e)
        have HNA := Lib.hid h1
        have HNB := Lib.hid g1
        have HOKK := Lib.hid (Nw.ok h1)
        clear h1 h2 h3 h4 g1 g2 g3 g4
        go_wp2_with (fail)
        refine (Nw.copies_ HNA.out (by omega)).mono ?_
        rintro r v1 ⟨La, lca, lwa, Fa, rfl, hcop, hlw, hk, -, -⟩
        have HCA := Lib.hid hcop
        have HLA := Lib.hid hlw
        have HKA := Lib.hid hk
        clear hcop hlw hk
        go_wp2_with (fail)
        refine (Rw.copies_ ((Rob.ob _ _).fresh HNB.out HKA.out)).mono ?_
        rintro r v2 ⟨Lb, lcb, lwb, rfl, hcop, hlw, hk⟩
        have HCB := Lib.hid hcop
        have HLB := Lib.hid hlw
        have HKB := Lib.hid hk
        clear hcop hlw hk
        have hcnt := HOKK.out.count
        have hll2 : lwa.length ≤ 1000000 := by
          have : lwa.length = s1.l.length := by rw [← HLA.out, List.length_map]
          omega
        go_wp2_with (fail)
        refine (Copies20_any La Lb lca lcb lwa lwb v2 (CcsAt.of (HCA.out.fresh HKB.out) fun z hz => by have := (HOKK.out.len _ (by rw [← HLA.out]; exact List.mem_map_of_mem hz)).2; omega) (CcsAt.of HCB.out fun z hz => by have := (HOKK.out.len _ (by rw [← HLB.out]; exact List.mem_map_of_mem hz)).2; omega) hll2).mono ?_
        rintro r v3 ⟨bb, rfl, hbb, hk⟩
        obtain rfl : bb = true := hbb.2 (by rw [tells_of HLA.out, tells_of HLB.out])
        have HK3 := Lib.hid ((HKA.out.trans HKB.out fun _ _ e => e).trans hk fun _ _ e => e)
        clear hk hbb
        have HPE := Lib.hid ((Pair.ob (Nob.ob p s1) (Rob.ob q s1)).fresh HP4.out HK3.out)
        have HKE := Lib.hid (HK4.out.trans HK3.out fun _ _ e => e.elim)
        go_wp2_with (fail)
        go_meet
        case rel => exact ⟨rfl, HPE.out, HKE.out⟩
      case rest =>
        obtain ⟨rfl, hp, hk4⟩ := hcut
        have HP4 := Lib.hid hp
        have HK4 := Lib.hid (HK.out.trans hk4 fun _ _ e => e)
        clear hp hk4 hstep HX0 HX1
        go_wp2_with (fail)
        go_roundw
        case rel => exact ⟨k + 1, by go_num, by omega, by rw [HST.out]; exact HP4.out, HK4.out⟩
        case measure => simp [intOf]; omega
    obtain rfl : k = l.length := by omega
    rw [List.take_length] at HPR hlast
    obtain ⟨s0, hs0⟩ : ∃ s0, Nt.play ⟨0, []⟩ l = s0 := ⟨_, rfl⟩
    rw [hs0] at HPR hlast
    clear hs0 HOK HSC HK HNL
    obtain ⟨w4, rfl⟩ : ∃ w4 : World, w4 = wr := ⟨_, rfl⟩
    obtain ⟨Ha, h1, h2, h3, h4⟩ := HPR.out.left (Rob.ob _ _) (Nob.ob _ _) (fun j e => Nat.le_trans HPW.out e)
    obtain ⟨Hb, g1, g2, g3, g4⟩ := HPR.out.right (Nob.ob _ _) (Rob.ob _ _) (fun j e => Nat.le_trans HPW.out e)
    have HNA := Lib.hid h1
    have HNB := Lib.hid g1
    have HOKK := Lib.hid (Nw.ok h1)
    clear h1 h2 h3 h4 g1 g2 g3 g4
    go_wp2_with (fail)
    refine (Nw.copies_ HNA.out (by omega)).mono ?_
    rintro r v1 ⟨La, lca, lwa, Fa, rfl, hcop, hlw, hk, -, -⟩
    have HCA := Lib.hid hcop
    have HLA := Lib.hid hlw
    have HKA := Lib.hid hk
    clear hcop hlw hk
    go_wp2_with (fail)
    refine (Rw.copies_ ((Rob.ob _ _).fresh HNB.out HKA.out)).mono ?_
    rintro r v2 ⟨Lb, lcb, lwb, rfl, hcop, hlw, hk⟩
    have HCB := Lib.hid hcop
    have HLB := Lib.hid hlw
    have HKB := Lib.hid hk
    clear hcop hlw hk
    have hcnt := HOKK.out.count
    have hll2 : lwa.length ≤ 1000000 := by
      have : lwa.length = s0.l.length := by rw [← HLA.out, List.length_map]
      omega
    go_wp2_with (fail)
    refine (Copies20_any La Lb lca lcb lwa lwb v2 (CcsAt.of (HCA.out.fresh HKB.out) fun z hz => by have := (HOKK.out.len _ (by rw [← HLA.out]; exact List.mem_map_of_mem hz)).2; omega) (CcsAt.of HCB.out fun z hz => by have := (HOKK.out.len _ (by rw [← HLB.out]; exact List.mem_map_of_mem hz)).2; omega) hll2).mono ?_
    rintro r v3 ⟨bb, rfl, hbb, hk⟩
    obtain rfl : bb = true := hbb.2 (by rw [tells_of HLA.out, tells_of HLB.out])
    have HK3 := Lib.hid ((HKA.out.trans HKB.out fun _ _ e => e).trans hk fun _ _ e => e)
    clear hk hbb
    go_wp2_with (fail)
    refine (Known20_any v3).mono ?_
    rintro r v4 ⟨rfl, hk⟩
    have HK4 := Lib.hid ((HA.out.trans HK3.out fun _ _ e => e).trans hk fun _ _ e => e)
    clear hk
    go_wp2_with (fail)
    go_ret
    exact ⟨rfl, HK4.out⟩
end Go.Proofs.Ytopcogogpbcbhaa
