/- The walk of NetRefused: it is true. Conditions: the script and the step lie in memory. -/
import Derived.Test.YtopcogogpbcbhaaNRfP
import Derived.Test.YtopcogogpbcbhaaNTol
import Derived.Test.YtopcogogpbcbhaaNOpL
namespace Go.Proofs.Ytopcogogpbcbhaa
open Go Go.RowKit

theorem rb_nil (e : Int) : (e != e) = false := by simp
theorem beq_of {b1 bb : Bool} {P : Prop} (h1 : b1 = true ↔ ¬ P) (h2 : bb = true ↔ P) : (b1 == bb) = false := by
  cases b1 <;> cases bb <;> simp_all
set_option maxRecDepth 100000 in
set_option maxHeartbeats 60000000 in
theorem Refused_walk (A : Option Addr) (c : Nat) (l : List Stn) (x : Stn) (w : World) (h : ScnAt w A l) (hl : l.length ≤ 4611686018427387904) (hx : x.Arg w) :
    Calls Try.prog 8 #[.slice A l.length c, .agg x.cs] w (KnownPost w) := by
  have HSC := Lib.hid h
  have HXA := Lib.hid hx
  have HA := Lib.hid ((Kept.refl (fun _ => False) w).alloc (.cells x.cs 32))
  have HB := Lib.hid (Box.new w 32 x.cs)
  clear h hx
  go_enter Try.func8, Try.ntmps8
  go_upto_region 1 with (fail)
  generalize w.alloc (.cells x.cs 32) = w0 at HA HB ⊢
  obtain ⟨X, hX⟩ : ∃ X, w.heap.size = X := ⟨_, rfl⟩
  have HWX := Lib.hid hX
  rw [hX] at HB ⊢
  clear hX
  go_wp2_with (fail)
  refine (Much20_any A l c w0 (HSC.out.steps.fresh HA.out) hl).mono ?_
  rintro r w1 ⟨rfl, hk⟩
  have HA1 := Lib.hid (HA.out.trans hk fun _ _ e => e)
  have HB1 := Lib.hid (HB.out.kept hk id)
  clear hk HA HB
  have x5 : w1.cell? ⟨X, 5, none⟩ = some (.slice x.dA x.data.length x.dc) := (HB1.out.cell 5).trans rfl
  obtain ⟨bm, hbm⟩ : ∃ bm, muchN l = bm := ⟨_, rfl⟩
  rw [hbm]
  have HBM := Lib.hid hbm
  clear hbm
  cases bm with
  | true =>
    as_aux_lemma =>
    go_wp2_with (fail)
    refine (Known20_any w1).mono ?_
    rintro r w2 ⟨rfl, hk⟩
    have HK := Lib.hid (HA1.out.trans hk fun _ _ e => e)
    clear hk
    go_wp2_with (fail)
    go_ret
    exact ⟨rfl, HK.out⟩
  | false =>
  by_cases hlx : 60000 < x.data.length
  case' pos =>
    as_aux_lemma =>
    have hlx' : (60000 : Int) < (x.data.length : Int) := by omega
    go_wp2_with (fail)
    refine (Known20_any w1).mono ?_
    rintro r w2 ⟨rfl, hk⟩
    have HK := Lib.hid (HA1.out.trans hk fun _ _ e => e)
    clear hk
    go_wp2_with (fail)
    go_ret
    exact ⟨rfl, HK.out⟩
  have hlx' : ¬ (60000 : Int) < (x.data.length : Int) := by omega
  obtain ⟨hok, hll, -⟩ := HSC.out.ok HBM.out
  have HOK := Lib.hid hok
  have HXK := Lib.hid (HXA.out.ok (by omega))
  clear hok HBM HXA hl
  go_wp2_with (fail)
  refine (Nw.new w1 w1.heap.size (Nat.le_refl _)).mono ?_
  rintro r w2 ⟨rfl, hn, hk⟩
  have HN2 := Lib.hid hn
  have HA2 := Lib.hid (HA1.out.trans hk fun _ _ e => e)
  have HB2 := Lib.hid (HB1.out.kept hk id)
  have HXP := Lib.hid HB1.out.lt
  have HPS := Lib.hid hk.size
  clear hn hk HA1 HB1 x5 hlx hlx'
  obtain ⟨p, hp⟩ : ∃ p, w1.heap.size = p := ⟨_, rfl⟩
  rw [hp] at HN2 HXP HPS ⊢
  clear hp
  go_wp2_with (fail)
  go_loopw [6] (fun i wr => ∃ k : Nat, i = .int .i64 k ∧ k ≤ l.length ∧ Nw (fun k => p ≤ k) p (Nt.play ⟨0, []⟩ (l.take k)) wr ∧ Kept (fun k => p ≤ k) w2 wr) (fun i _ => l.length - (intOf i).toNat)
  case atStart => exact ⟨0, rfl, Nat.zero_le _, HN2.out, Kept.refl _ _⟩
  case round =>
    obtain ⟨k, rfl, hk, hn, hkk⟩ := hrel
    have HN := Lib.hid hn
    have HK := Lib.hid hkk
    have HA := Lib.hid (HA2.out.trans hkk fun j hj e => by have := HWX.out; have := HXP.out; omega)
    have HB := Lib.hid (HB2.out.kept hkk fun e => by have := HXP.out; omega)
    have HPW := Lib.hid (Nat.le_trans HPS.out hkk.size)
    have hlast : (Nt.play ⟨0, []⟩ (l.take k)).last ≤ k := by
      have := Nt.play_last ⟨0, []⟩ (l.take k)
      rw [List.length_take] at this
      have e : (⟨0, []⟩ : Nt).last = 0 := rfl
      omega
    clear hn hkk HN2 HA2 HB2
    by_cases hlt : k < l.length
    · obtain ⟨ad, rfl, x0, x1⟩ := HSC.out.steps.fresh HA.out k hlt
      have HST := Lib.hid (Nt.play_take ⟨0, []⟩ l k hlt)
      have HOX := Lib.hid ((HOK.out l[k] (List.getElem_mem hlt)).fresh HA.out)
      obtain ⟨y, hy⟩ : ∃ y, l[k] = y := ⟨_, rfl⟩
      rw [hy] at x0 x1 HST HOX
      have HX0 := Lib.hid x0
      have HX1 := Lib.hid x1
      clear x0 x1 hy
      go_wp2_with (refine load_stn rfl _ rfl _ rfl y HX0.out HX1.out ?_)
      refine (Nw.do_ HN.out (fun j e => Nat.le_trans HPW.out e) (by omega) HOX.out).mono ?_
      rintro r w4 ⟨rfl, hn, hkk⟩
      have HN4 := Lib.hid hn
      have HK4 := Lib.hid (HK.out.trans hkk fun _ _ e => e)
      clear hn hkk HX0 HX1 HOX
      go_wp2_with (fail)
      go_roundw
      case rel => exact ⟨k + 1, by go_num, by omega, by rw [HST.out]; exact HN4.out, HK4.out⟩
      case measure => simp [intOf]; omega
    obtain rfl : k = l.length := by omega
    rw [List.take_length] at HN hlast
    obtain ⟨s0, hs0⟩ : ∃ s0, Nt.play ⟨0, []⟩ l = s0 := ⟨_, rfl⟩
    rw [hs0] at HN hlast
    clear hs0 HOK HSC HK
    obtain ⟨w3, rfl⟩ : ∃ w3 : World, w3 = wr := ⟨_, rfl⟩
    have hl0 : s0.last ≤ 200 := by omega
    clear hlast
    have HOK0 := Lib.hid HN.out.ok
    go_wp2_with (fail)
    refine (Nw.told_ HN.out (by omega) (fun j e => Nat.le_trans HPW.out e)).mono ?_
    rintro r w4 ⟨L, lc, lw, G2, rfl, hcop, hlw, hk4, hn, hg2, hgp, hgd⟩
    have HLW := Lib.hid hlw
    have hlen : lw.length = s0.l.length := by rw [← hlw, List.length_map]
    have hcnt := HOK0.out.count
    have HC4 := Lib.hid hcop
    have HN4 := Lib.hid hn
    have HA4 := Lib.hid (HA.out.trans hk4 fun _ _ e => e)
    have HB4 := Lib.hid (HB.out.kept hk4 id)
    have HG2 := Lib.hid hg2
    have HGP := Lib.hid hgp
    have HGD := Lib.hid hgd
    clear hlw hcop hk4 hn hg2 hgp hgd HN HA HB
    obtain ⟨b5, hb5⟩ : ∃ b5, w3.heap.size = b5 := ⟨_, rfl⟩
    rw [hb5] at HC4 HGD
    clear hb5
    obtain ⟨t4, ht4⟩ : ∃ t4, w4.heap.size = t4 := ⟨_, rfl⟩
    have HS4 := Lib.hid (Nat.le_of_eq ht4.symm)
    rw [ht4] at HC4 HGD HG2
    clear ht4
    go_wp2_with (fail)
    go_loopw [8, 9] (fun a i wr => ∃ (ii : Nat) (av : Int), a = .int .i64 av ∧ i = .int .i64 ii ∧ ii ≤ lw.length ∧ ((av = -1 ∧ ∀ j (h : j < s0.l.length), j < ii → ¬ (s0.l[j].num : Int) = x.num) ∨ (∃ j, ∃ h : j < s0.l.length, av = (j : Int) ∧ j < ii ∧ (s0.l[j].num : Int) = x.num)) ∧ Kept (fun _ => False) w4 wr) (fun _ i _ => lw.length - (intOf i).toNat)
    case atStart => exact ⟨0, -1, rfl, rfl, Nat.zero_le _, .inl ⟨rfl, fun j h hj => by omega⟩, Kept.refl _ _⟩
    case round =>
      obtain ⟨i, av, rfl, rfl, hi, hav, hkk⟩ := hrel
      have HAV := Lib.hid hav
      have HK := Lib.hid hkk
      have HC := Lib.hid (HC4.out.fresh hkk)
      have HB := Lib.hid (HB4.out.kept hkk id)
      clear hav hkk
      by_cases hlt : i < lw.length
      · have hls : i < s0.l.length := by omega
        obtain ⟨g, e1, -, hcell, -⟩ := own_cells HC.out.at_.row (by omega)
        subst e1
        have hlwi := at_map HLW.out hlt hls
        have y0 : wr.cell? ⟨g, i * 6, none⟩ = some (.int .i64 (s0.l[i].num : Int)) := hcell (i * 6) _ (by have := ccs_cell hlt 0 (by omega); rw [Nat.add_zero] at this; rw [this, hlwi]; rfl)
        have x1 : wr.cell? ⟨X, 1, none⟩ = some (.int .i64 x.num) := (HB.out.cell 1).trans rfl
        obtain ⟨nn, hnn⟩ : ∃ nn, s0.l[i].num = nn := ⟨_, rfl⟩
        rw [hnn] at y0
        have HNN := Lib.hid hnn
        have hi0 : (0 : Int) ≤ (i : Int) := by omega
        have hin : (i : Int) < (lw.length : Int) := by omega
        clear hcell hlwi hnn
        by_cases he : (nn : Int) = x.num
        · have hbe : ((nn : Int) == x.num) = true := beq_iff_eq.2 he
          have HE := Lib.hid he
          clear he
          go_wp2_with (fail)
          go_quiet (fail)
          go_wp2
          go_roundw
          case rel => exact ⟨i + 1, i, rfl, by go_num, by omega, .inr ⟨i, hls, rfl, by omega, by rw [HNN.out]; exact HE.out⟩, HK.out.trans (Kept.drewN_eq nq) fun _ _ e => e⟩
          case measure => simp [intOf]; omega
        · have hbe : ((nn : Int) == x.num) = false := beq_eq_false_iff_ne.mpr he
          have HE := Lib.hid he
          clear he
          go_wp2_with (fail)
          go_quiet (fail)
          go_wp2
          go_roundw
          case rel =>
            refine ⟨i + 1, av, rfl, by go_num, by omega, ?_, HK.out.trans (Kept.drewN_eq nq) fun _ _ e => e⟩
            rcases HAV.out with ⟨h1, h2⟩ | ⟨j, h1, h2, h3, h4⟩
            · refine .inl ⟨h1, fun j hj hji => ?_⟩
              by_cases hj2 : j = i
              · subst hj2; rw [HNN.out]; exact HE.out
              · exact h2 j hj (by omega)
            · exact .inr ⟨j, h1, h2, by omega, h4⟩
          case measure => simp [intOf]; omega
      obtain rfl : i = lw.length := by omega
      have hav : (av = -1 ∧ s0.get x.num = none) ∨ (∃ j, ∃ h : j < s0.l.length, av = (j : Int) ∧ (s0.l[j].num : Int) = x.num) := by
        rcases HAV.out with ⟨h1, h2⟩ | ⟨j, h1, h2, h3, h4⟩
        · refine .inl ⟨h1, Nt.get_none fun c hc => ?_⟩
          obtain ⟨j, hj, rfl⟩ := List.getElem_of_mem hc
          exact h2 j hj (by omega)
        · exact .inr ⟨j, h1, h2, h4⟩
      have HAT := Lib.hid hav
      have HN5 := Lib.hid (HN4.out.fresh HK.out)
      have HA5 := Lib.hid (HA4.out.trans HK.out fun _ _ e => e)
      have HS5 := Lib.hid (Nat.le_trans HS4.out HK.out.size)
      clear hav HAV HK HN4 HA4 HB4 HC4 HS4
      obtain ⟨w5, rfl⟩ : ∃ w5 : World, w5 = wr := ⟨_, rfl⟩
      have x1 : w5.cell? ⟨X, 1, none⟩ = some (.int .i64 x.num) := (HB.out.cell 1).trans rfl
      have x4 : w5.cell? ⟨X, 4, none⟩ = some (.int .i64 x.at_) := (HB.out.cell 4).trans rfl
      have x5 : w5.cell? ⟨X, 5, none⟩ = some (.slice x.dA x.data.length x.dc) := (HB.out.cell 5).trans rfl
      have HXC := Lib.hid (HXK.out.fresh HA5.out)
      have hal := Nw.alter_ (n := x.num) (a := x.at_) (A := x.dA) (b := x.data) (c := x.dc) HN5.out (fun k e => HG2.out k (Nat.le_trans HS5.out e)) HXC.out.num HXC.out.at_ HXC.out.b HXC.out.by_ HXC.out.len
      have HCH := Lib.hid (s0.alter_chg x.num x.at_ x.data)
      have HWN := Lib.hid (fun h => s0.alter_none (n := x.num) (a := x.at_) (b := x.data) h)
      have HWG := Lib.hid (fun cc h => s0.alter_get (n := x.num) (a := x.at_) (b := x.data) (c := cc) h)
      obtain ⟨z, hz⟩ : ∃ z, s0.alter x.num x.at_ x.data = z := ⟨_, rfl⟩
      rw [hz] at hal HCH HWN HWG
      clear hz
      obtain ⟨e, s1⟩ := z
      simp only at hal HWN HWG
      go_wp2_with (fail)
      refine hal.mono ?_
      clear hal
      rintro r w6 ⟨rfl, hn, hkk⟩
      have HN6 := Lib.hid hn
      have HA6 := Lib.hid (HA5.out.trans hkk fun k hk e => by have := HGP.out k e; have := HXP.out; have := HWX.out; omega)
      have HB6 := Lib.hid (HB.out.kept hkk fun e => by have := HGP.out _ e; have := HXP.out; omega)
      have HC6 := Lib.hid (HC.out.kept hkk HGD.out)
      have HS6 := Lib.hid (Nat.le_trans HS5.out hkk.size)
      clear hn hkk HN5 HA5 HB HC HS5 x1 x4 x5 HXC
      have x4 : w6.cell? ⟨X, 4, none⟩ = some (.int .i64 x.at_) := (HB6.out.cell 4).trans rfl
      have x5 : w6.cell? ⟨X, 5, none⟩ = some (.slice x.dA x.data.length x.dc) := (HB6.out.cell 5).trans rfl
      go_upto_if 68 with (fail)
      go_cut [10, 12] (fun v _ wx => v = .int .i64 e ∧ ∃ n, wx = w6.drewN n)
      case first =>
        as_aux_lemma =>
        rcases HAT.out with ⟨rfl, hg⟩ | ⟨j, hj, rfl, hjn⟩
        · have he := HWN.out hg
          have HE := Lib.hid he
          clear he hg HWN HWG x4 x5
          go_wp2_with (fail)
          go_meet
          case rel => exact ⟨by rw [HE.out], 0, rfl⟩
        · as_aux_lemma =>
          have hjl : j < lw.length := by omega
          have hg := HOK0.out.get_at hj hjn
          have he := HWG.out _ hg
          have hdl := (HOK0.out.len _ (List.getElem_mem hj)).2
          obtain ⟨g, e1, -, hcell, -⟩ := own_cells HC6.out.at_.row (by omega)
          subst e1
          have hlwj := at_map HLW.out hjl hj
          obtain ⟨y, hy⟩ : ∃ y, lw[j] = y := ⟨_, rfl⟩
          have HD := Lib.hid (HC6.out.at_.d y (by rw [← hy]; exact List.getElem_mem hjl))
          rw [← hlwj, hy] at he hdl
          have y3 : w6.cell? ⟨g, j * 6 + 3, none⟩ = some (.slice y.A y.c.data.length y.cap) := hcell (j * 6 + 3) _ (by rw [ccs_cell hjl 3 (by omega), hy]; rfl)
          have y5 : w6.cell? ⟨g, j * 6 + 5, none⟩ = some (.bool y.c.bad) := hcell (j * 6 + 5) _ (by rw [ccs_cell hjl 5 (by omega), hy]; rfl)
          have HE := Lib.hid he
          have hj0 : (0 : Int) ≤ (j : Int) := by omega
          have hjn' : (j : Int) < (lw.length : Int) := by omega
          have hneg : ¬ (j : Int) < 0 := by omega
          have HXB := Lib.hid (HXK.out.fresh HA6.out)
          clear he hg hcell hlwj hy hjn HWN HWG HAT HCH
          obtain ⟨yc, yA, ycap⟩ := y
          obtain ⟨n1, n2, n3, n4, n5, dd, bad⟩ := yc
          simp only [Cc.dV] at HD HE hdl y3 y5
          generalize x.at_ = aa at x4 HE
          obtain ⟨bb, hbb⟩ : ∃ bb, x.data = bb := ⟨_, rfl⟩
          rw [hbb] at x5 HE
          go_upto_region 22 with (fail)
          go_cut [114] (fun v wx => v = .bool (!alterOk dd aa bb) ∧ ∃ n, wx = w6.drewN n)
          case first =>
            have hbl : bb.length ≤ 60000 := by have := HXB.out.len; rw [← hbb]; exact this
            have hw : IntKind.i64.wrap ((dd.length : Int) - bb.length) = (dd.length : Int) - bb.length := IntWalk.i64_in _ ⟨by omega, by omega⟩
            clear y5
            have hcase : ((bb.length : Int) < 1) ∨ (1 ≤ (bb.length : Int) ∧ 4 < (bb.length : Int)) ∨ (1 ≤ (bb.length : Int) ∧ (bb.length : Int) ≤ 4 ∧ aa < 0) ∨ (1 ≤ (bb.length : Int) ∧ (bb.length : Int) ≤ 4 ∧ 0 ≤ aa ∧ (dd.length : Int) - bb.length < aa) ∨ (1 ≤ (bb.length : Int) ∧ (bb.length : Int) ≤ 4 ∧ 0 ≤ aa ∧ aa ≤ (dd.length : Int) - bb.length) := by omega
            rcases hcase with h1 | ⟨h1, h2⟩ | ⟨h1, h2, h3⟩ | ⟨h1, h2, h3, h4⟩ | ⟨h1, h2, h3, h4⟩
            · have HV := Lib.hid (show alterOk dd aa bb = false from alterOk_no (by omega))
              have d0 : decide ((bb.length : Int) < 1) = true := decide_eq_true (by omega)
              have e0 : (bb.length : Int) < 1 := by omega
              clear HXB HD
              refine wp_region_quiet_lit (l := _ :: _ :: _ :: _ :: _ :: _ :: _ :: _ :: _ :: _ :: _ :: _ :: _ :: _ :: _ :: _ :: _ :: _ :: _ :: _ :: _ :: _ :: _ :: _ :: _ :: _ :: _ :: _ :: _ :: _ :: _ :: _ :: _ :: _ :: _ :: _ :: _ :: _ :: _ :: _ :: _ ::  []) (by kernel_rfl) (by kernel_rfl) ?_
              repeat (first | go_big_quiet_skip | (go_big_quiet_want; go_big_quiet_op; first | go_big_quiet_on | go_big_quiet_call (fail)))
              refine wpQuiet_nil ?_
              rintro _ ⟨nq, rfl⟩
              go_wp2
              go_meet
              case rel => exact ⟨by rw [HV.out]; rfl, _, rfl⟩
            · have HV := Lib.hid (show alterOk dd aa bb = false from alterOk_no (by omega))
              have d0 : decide ((bb.length : Int) < 1) = false := decide_eq_false (by omega)
              have e0 : ¬ (bb.length : Int) < 1 := by omega
              have d1 : decide ((4 : Int) < bb.length) = true := decide_eq_true (by omega)
              have e1 : (4 : Int) < bb.length := by omega
              clear HXB HD
              refine wp_region_quiet_lit (l := _ :: _ :: _ :: _ :: _ :: _ :: _ :: _ :: _ :: _ :: _ :: _ :: _ :: _ :: _ :: _ :: _ :: _ :: _ :: _ :: _ :: _ :: _ :: _ :: _ :: _ :: _ :: _ :: _ :: _ :: _ :: _ :: _ :: _ :: _ :: _ :: _ :: _ :: _ :: _ :: _ ::  []) (by kernel_rfl) (by kernel_rfl) ?_
              repeat (first | go_big_quiet_skip | (go_big_quiet_want; go_big_quiet_op; first | go_big_quiet_on | go_big_quiet_call (fail)))
              refine wpQuiet_nil ?_
              rintro _ ⟨nq, rfl⟩
              go_wp2
              go_meet
              case rel => exact ⟨by rw [HV.out]; rfl, _, rfl⟩
            · have HV := Lib.hid (show alterOk dd aa bb = false from alterOk_no (by omega))
              have d0 : decide ((bb.length : Int) < 1) = false := decide_eq_false (by omega)
              have e0 : ¬ (bb.length : Int) < 1 := by omega
              have d1 : decide ((4 : Int) < bb.length) = false := decide_eq_false (by omega)
              have e1 : ¬ (4 : Int) < bb.length := by omega
              have d2 : decide (aa < 0) = true := decide_eq_true (by omega)
              have e2 : aa < 0 := by omega
              clear HXB HD
              refine wp_region_quiet_lit (l := _ :: _ :: _ :: _ :: _ :: _ :: _ :: _ :: _ :: _ :: _ :: _ :: _ :: _ :: _ :: _ :: _ :: _ :: _ :: _ :: _ :: _ :: _ :: _ :: _ :: _ :: _ :: _ :: _ :: _ :: _ :: _ :: _ :: _ :: _ :: _ :: _ :: _ :: _ :: _ :: _ ::  []) (by kernel_rfl) (by kernel_rfl) ?_
              repeat (first | go_big_quiet_skip | (go_big_quiet_want; go_big_quiet_op; first | go_big_quiet_on | go_big_quiet_call (fail)))
              refine wpQuiet_nil ?_
              rintro _ ⟨nq, rfl⟩
              go_wp2
              go_meet
              case rel => exact ⟨by rw [HV.out]; rfl, _, rfl⟩
            · have HV := Lib.hid (show alterOk dd aa bb = false from alterOk_no (by omega))
              have d0 : decide ((bb.length : Int) < 1) = false := decide_eq_false (by omega)
              have e0 : ¬ (bb.length : Int) < 1 := by omega
              have d1 : decide ((4 : Int) < bb.length) = false := decide_eq_false (by omega)
              have e1 : ¬ (4 : Int) < bb.length := by omega
              have d2 : decide (aa < 0) = false := decide_eq_false (by omega)
              have e2 : ¬ aa < 0 := by omega
              have d3 : decide ((dd.length : Int) - bb.length < aa) = true := decide_eq_true (by omega)
              have e3 : (dd.length : Int) - bb.length < aa := by omega
              clear HXB HD
              refine wp_region_quiet_lit (l := _ :: _ :: _ :: _ :: _ :: _ :: _ :: _ :: _ :: _ :: _ :: _ :: _ :: _ :: _ :: _ :: _ :: _ :: _ :: _ :: _ :: _ :: _ :: _ :: _ :: _ :: _ :: _ :: _ :: _ :: _ :: _ :: _ :: _ :: _ :: _ :: _ :: _ :: _ :: _ :: _ ::  []) (by kernel_rfl) (by kernel_rfl) ?_
              repeat (first | go_big_quiet_skip | (go_big_quiet_want; go_big_quiet_op; first | go_big_quiet_on | go_big_quiet_call (fail)))
              refine wpQuiet_nil ?_
              rintro _ ⟨nq, rfl⟩
              go_wp2
              go_meet
              case rel => exact ⟨by rw [HV.out]; rfl, _, rfl⟩
            · obtain ⟨m, rfl⟩ : ∃ m : Nat, aa = (m : Int) := ⟨aa.toNat, by omega⟩
              have hmm : m + bb.length ≤ dd.length := by omega
              have HV := Lib.hid (alterOk_yes (d := dd) (m := m) (b := bb) (by omega) (by omega) hmm)
              obtain ⟨gd, e9, -, -, -⟩ := own_cells HD.out (by omega)
              subst e9
              have hcp := own_caps HD.out
              have hw2 : IntKind.i64.wrap ((m : Int) + bb.length) = (m : Int) + bb.length := IntWalk.i64_in _ ⟨by omega, by omega⟩
              have hs1 : (m : Int) ≤ (m : Int) + bb.length := by omega
              have hs2 : (m : Int) + bb.length ≤ (ycap : Int) := by omega
              have hbyp : ∀ n, BytesAt (w6.drewN n) (some (Addr.add ⟨gd, 0, none⟩ m)) ((dd.drop m).take bb.length) := fun n => (BytesAt.of_own ((Kept.drewN_eq (S := fun _ => False) n).own HD.out fun _ _ => id)).part m bb.length
              have hbyq : ∀ n, BytesAt (w6.drewN n) x.dA bb := fun n => by have := HXB.out.b.fresh (Kept.drewN_eq n); rw [hbb] at this; exact this
              have hbyl : ((dd.drop m).take bb.length).length = bb.length := by rw [List.length_take, List.length_drop]; omega
              have HBY := Lib.hid (fun n => Bytes20_read (some (Addr.add ⟨gd, 0, none⟩ m)) x.dA ((dd.drop m).take bb.length) bb (ycap - m) x.dc (w6.drewN n) (hbyp n) (hbyq n) (by omega))
              rw [hbyl, add_none] at HBY
              clear hbyp hbyq hbyl
              have d0 : decide ((bb.length : Int) < 1) = false := decide_eq_false (by omega)
              have e0 : ¬ (bb.length : Int) < 1 := by omega
              have d1 : decide ((4 : Int) < bb.length) = false := decide_eq_false (by omega)
              have e1 : ¬ (4 : Int) < bb.length := by omega
              have d2 : decide ((m : Int) < 0) = false := decide_eq_false (by omega)
              have e2 : ¬ (m : Int) < 0 := by omega
              have d3 : decide ((dd.length : Int) - bb.length < (m : Int)) = false := decide_eq_false (by omega)
              have e3 : ¬ (dd.length : Int) - bb.length < (m : Int) := by omega
              obtain ⟨bo, hbo⟩ : ∃ bo, decide ((dd.drop m).take bb.length = bb) = bo := ⟨_, rfl⟩
              rw [hbo] at HV HBY
              clear hbo HXB HD

              refine wp_region_quiet_lit (l := _ :: _ :: _ :: _ :: _ :: _ :: _ :: _ :: _ :: _ :: _ :: _ :: _ :: _ :: _ :: _ :: _ :: _ :: _ :: _ :: _ :: _ :: _ :: _ :: _ :: _ :: _ :: _ :: _ :: _ :: _ :: _ :: _ :: _ :: _ :: _ :: _ :: _ :: _ :: _ :: _ ::  []) (by kernel_rfl) (by kernel_rfl) ?_
              repeat (first | go_big_quiet_skip | (go_big_quiet_want; go_big_quiet_op; first | go_big_quiet_on | go_big_quiet_call (exact Calls.quiet_of (HBY.out _))))
              refine wpQuiet_nil ?_
              rintro _ ⟨nq, rfl⟩
              go_wp2
              go_meet
              case rel => exact ⟨by rw [HV.out]; simp, _, rfl⟩
          case rest =>
            obtain ⟨rfl, n, rfl⟩ := hcut
            have HDN := Lib.hid (Kept.drewN_eq (S := fun _ => False) (w := w6) n)
            clear HXB HD hbb
            obtain ⟨bo, hbo⟩ : ∃ bo, alterOk dd aa bb = bo := ⟨_, rfl⟩
            rw [hbo] at HE ⊢
            clear hbo
            cases bo with
            | false =>
              go_wp2_with (fail)
              go_meet
              case rel => exact ⟨by rw [HE.out]; rfl, n, rfl⟩
            | true =>
              cases bad with
              | true =>
                go_wp2_with (fail)
                go_meet
                case rel => exact ⟨by rw [HE.out]; rfl, n, rfl⟩
              | false =>
                go_wp2_with (fail)
                go_meet
                case rel => exact ⟨by rw [HE.out]; rfl, n, rfl⟩
      case rest =>
        as_aux_lemma =>
        obtain ⟨rfl, n6, rfl⟩ := hcut
        have hd6 := Kept.drewN_eq (S := fun _ => False) (w := w6) n6
        have HN7 := Lib.hid (HN6.out.fresh hd6)
        have HA7 := Lib.hid (HA6.out.trans hd6 fun _ _ e => e)
        have HB7 := Lib.hid (HB6.out.kept hd6 id)
        have HC7 := Lib.hid (HC6.out.fresh hd6)
        have HS7 := Lib.hid (Nat.le_trans HS6.out hd6.size)
        have hl1 : s1.last ≤ 200 := by have h1 : s1.last = s0.last := HCH.out.last; omega
        have HNL := Lib.hid (show s1.l.length = s0.l.length from HCH.out.len)
        clear hd6 HN6 HA6 HB6 HC6 HS6 x4 x5 HWN HWG
        generalize w6.drewN n6 = w7 at *
        go_wp2_with (fail)
        refine (Nw.told_ HN7.out (by omega) (fun k e => HG2.out k (Nat.le_trans HS7.out e))).mono ?_
        rintro r w8 ⟨L2, lc2, lw2, G3, rfl, hcop, hlw, hk8, hn, hg3, hgp, hgd⟩
        have HLW2 := Lib.hid hlw
        have HLEN2 := Lib.hid (show lw2.length = s1.l.length by rw [← hlw, List.length_map])
        have HC2 := Lib.hid hcop
        have HN8 := Lib.hid hn
        have HOK1 := Lib.hid hn.ok
        have HA8 := Lib.hid (HA7.out.trans hk8 fun _ _ e => e)
        have HB8 := Lib.hid (HB7.out.kept hk8 id)
        have HC8 := Lib.hid (HC7.out.fresh hk8)
        have HG3 := Lib.hid hg3
        have HGP3 := Lib.hid (fun k e => HGP.out k (hgp k e))
        have HGD1 := Lib.hid (fun k h1 h2 e => HGD.out k h1 h2 (hgp k e))
        have HGD2 := Lib.hid hgd
        clear hlw hcop hk8 hn hg3 hgp hgd HN7 HA7 HB7 HC7 HS7 HGD HGP HG2
        obtain ⟨b7, hb7⟩ : ∃ b7, w7.heap.size = b7 := ⟨_, rfl⟩
        rw [hb7] at HC2 HGD2
        clear hb7
        obtain ⟨t8, ht8⟩ : ∃ t8, w8.heap.size = t8 := ⟨_, rfl⟩
        have HS8 := Lib.hid (Nat.le_of_eq ht8.symm)
        rw [ht8] at HC2 HGD2 HG3
        clear ht8
        obtain ⟨b1, hb1⟩ : ∃ b1, (e == 0) = b1 := ⟨_, rfl⟩
        have hx1 : (e != e) = false := rb_nil e
        have HBB := Lib.hid (show ∀ bb : Bool, (bb = true ↔ tells lw2 = tells lw) → (b1 == bb) = false from fun bb h => beq_of (P := s1.l.map Cp.tell = s0.l.map Cp.tell) (by rw [← hb1]; exact beq_iff_eq.trans HCH.out.iff) (by rw [tells_of HLW2.out, tells_of HLW.out] at h; exact h))
        go_upto_region 27 with (fail)
        go_cut [132] (fun v wx => v = .bool false ∧ Kept (fun _ => False) w8 wx)
        case first =>
          as_aux_lemma =>
          go_wp2_with (fail)
          have hcc := Copies20_any L2 L lc2 lc lw2 lw w8 (HC2.out.ccs HLW2.out HN8.out.ok) (HC8.out.ccs HLW.out HOK0.out) (by have := HLEN2.out; have := HNL.out; omega)
          rw [hlen] at hcc
          refine hcc.mono ?_
          clear hcc
          rintro r w9 ⟨bb, rfl, hbb, hk9⟩
          have hz := HBB.out bb hbb
          have HK9 := Lib.hid hk9
          clear hbb hk9
          go_wp2_with (fail)
          go_meet
          case rel => exact ⟨rfl, HK9.out⟩
        case rest =>
          as_aux_lemma =>
          obtain ⟨rfl, hk9⟩ := hcut
          have HN9 := Lib.hid (HN8.out.fresh hk9)
          have HA9 := Lib.hid (HA8.out.trans hk9 fun _ _ e => e)
          have HB9 := Lib.hid (HB8.out.kept hk9 id)
          have HC9 := Lib.hid (HC2.out.fresh hk9)
          have HS9 := Lib.hid (Nat.le_trans HS8.out hk9.size)
          clear hk9 HN8 HA8 HB8 HC8 HC2 HS8 HBB hb1 hx1
          obtain ⟨w9, rfl⟩ : ∃ w9 : World, w9 = wc := ⟨_, rfl⟩
          have x1 : w9.cell? ⟨X, 1, none⟩ = some (.int .i64 x.num) := (HB9.out.cell 1).trans rfl
          have x4 : w9.cell? ⟨X, 4, none⟩ = some (.int .i64 x.at_) := (HB9.out.cell 4).trans rfl
          have hca := Nw.cut_ (n := x.num) (k := x.at_) HN9.out (fun k e => HG3.out k (Nat.le_trans HS9.out e)) HXK.out.num
          have HCH2 := Lib.hid (s1.cut_chg x.num x.at_)
          have HWN := Lib.hid (fun h => s1.cut_none (n := x.num) (k := x.at_) h)
          have HWG := Lib.hid (fun cc h => s1.cut_get (n := x.num) (k := x.at_) (c := cc) h)
          obtain ⟨z, hz⟩ : ∃ z, s1.cut x.num x.at_ = z := ⟨_, rfl⟩
          rw [hz] at hca HCH2 HWN HWG
          clear hz
          obtain ⟨e2, s2⟩ := z
          simp only at hca HWN HWG
          go_wp2_with (fail)
          refine hca.mono ?_
          clear hca
          rintro r w10 ⟨rfl, hn, hkk⟩
          have HN10 := Lib.hid hn
          have HA10 := Lib.hid (HA9.out.trans hkk fun k hk e => by have := HGP3.out k e; have := HXP.out; have := HWX.out; omega)
          have HB10 := Lib.hid (HB9.out.kept hkk fun e => by have := HGP3.out _ e; have := HXP.out; omega)
          have HC10 := Lib.hid (HC9.out.kept hkk HGD2.out)
          have HS10 := Lib.hid (Nat.le_trans HS9.out hkk.size)
          clear hn hkk HN9 HA9 HB9 HC9 HS9 x1 x4
          have x4 : w10.cell? ⟨X, 4, none⟩ = some (.int .i64 x.at_) := (HB10.out.cell 4).trans rfl
          go_upto_if 140 with (fail)
          go_cut [10] (fun v wx => v = .int .i64 e2 ∧ ∃ n, wx = w10.drewN n)
          case first =>
            as_aux_lemma =>
            rcases HAT.out with ⟨rfl, hg⟩ | ⟨j, hj, rfl, hjn⟩
            · have he := HWN.out (HCH.out.get_none hg)
              have HE := Lib.hid he
              clear he hg HWN HWG x4
              go_wp2_with (fail)
              go_meet
              case rel => exact ⟨by rw [HE.out], 0, rfl⟩
            · obtain ⟨hj1, hg⟩ := HCH.out.get_at HOK1.out hj hjn
              have hjl : j < lw2.length := by rw [HLEN2.out]; exact hj1
              have he := HWG.out _ hg
              have hdl := (HOK1.out.len _ (List.getElem_mem hj1)).2
              obtain ⟨g, e1, -, hcell, -⟩ := own_cells HC10.out.at_.row (by omega)
              subst e1
              have hlwj := at_map HLW2.out hjl hj1
              obtain ⟨y, hy⟩ : ∃ y, lw2[j] = y := ⟨_, rfl⟩
              simp only at he hdl
              rw [← hlwj, hy] at he hdl
              have y3 : w10.cell? ⟨g, j * 6 + 3, none⟩ = some (.slice y.A y.c.data.length y.cap) := hcell (j * 6 + 3) _ (by rw [ccs_cell hjl 3 (by omega), hy]; rfl)
              have y5 : w10.cell? ⟨g, j * 6 + 5, none⟩ = some (.bool y.c.bad) := hcell (j * 6 + 5) _ (by rw [ccs_cell hjl 5 (by omega), hy]; rfl)
              have HE := Lib.hid he
              have hj0 : (0 : Int) ≤ (j : Int) := by omega
              have hjn' : (j : Int) < (lw2.length : Int) := by omega
              have hneg : ¬ (j : Int) < 0 := by omega
              clear he hg hcell hlwj hy hjn HWN HWG HAT HCH HCH2
              obtain ⟨yc, yA, ycap⟩ := y
              obtain ⟨n1, n2, n3, n4, n5, dd, bad⟩ := yc
              simp only at HE hdl y3 y5
              generalize x.at_ = aa at x4 HE
              by_cases h3 : aa < 0
              · have d0 : decide (aa < 0) = true := decide_eq_true h3
                have HV := Lib.hid (show cutOk dd aa = false from decide_eq_false (by omega))
                go_wp2_with (fail)
                go_quiet (fail)
                go_wp2_with (fail)
                go_meet
                case rel => exact ⟨by rw [HE.out, HV.out]; rfl, _, rfl⟩
              · have d0 : decide (aa < 0) = false := decide_eq_false h3
                by_cases h4 : (dd.length : Int) ≤ aa
                · have d1 : decide ((dd.length : Int) ≤ aa) = true := decide_eq_true h4
                  have HV := Lib.hid (show cutOk dd aa = false from decide_eq_false (by omega))
                  go_wp2_with (fail)
                  go_quiet (fail)
                  go_wp2_with (fail)
                  go_meet
                  case rel => exact ⟨by rw [HE.out, HV.out]; rfl, _, rfl⟩
                · have d1 : decide ((dd.length : Int) ≤ aa) = false := decide_eq_false h4
                  have HV := Lib.hid (show cutOk dd aa = true from decide_eq_true (by omega))
                  cases bad with
                  | true =>
                    go_wp2_with (fail)
                    go_quiet (fail)
                    go_wp2_with (fail)
                    go_meet
                    case rel => exact ⟨by rw [HE.out, HV.out]; rfl, _, rfl⟩
                  | false =>
                    go_wp2_with (fail)
                    go_quiet (fail)
                    go_wp2_with (fail)
                    go_meet
                    case rel => exact ⟨by rw [HE.out, HV.out]; rfl, _, rfl⟩
          case rest =>
            as_aux_lemma =>
            obtain ⟨rfl, n10, rfl⟩ := hcut
            have hd10 := Kept.drewN_eq (S := fun _ => False) (w := w10) n10
            have HN11 := Lib.hid (HN10.out.fresh hd10)
            have HA11 := Lib.hid (HA10.out.trans hd10 fun _ _ e => e)
            have HB11 := Lib.hid (HB10.out.kept hd10 id)
            have HC11 := Lib.hid (HC10.out.fresh hd10)
            have HS11 := Lib.hid (Nat.le_trans HS10.out hd10.size)
            have hl2 : s2.last ≤ 200 := by have h1 : s2.last = s1.last := HCH2.out.last; omega
            have HNL2 := Lib.hid (show s2.l.length = s1.l.length from HCH2.out.len)
            clear hd10 HN10 HA10 HB10 HC10 HS10 x4 HWN HWG
            generalize w10.drewN n10 = w11 at *
            obtain ⟨b2, hb2⟩ : ∃ b2, (e2 == 0) = b2 := ⟨_, rfl⟩
            have hx2 : (e2 != e2) = false := rb_nil e2
            have HBB := Lib.hid (show ∀ (bb : Bool) (l3 : List Cc), l3.map (·.c) = s2.l → (bb = true ↔ tells l3 = tells lw2) → (b2 == bb) = false from fun bb l3 hl3 h => beq_of (P := s2.l.map Cp.tell = s1.l.map Cp.tell) (by rw [← hb2]; exact beq_iff_eq.trans HCH2.out.iff) (by rw [tells_of hl3, tells_of HLW2.out] at h; exact h))
            go_upto_region 37 with (fail)
            go_cut [171] (fun v wx => v = .bool false ∧ Kept (fun _ => False) w11 wx)
            case first =>
              as_aux_lemma =>
              go_wp2_with (fail)
              refine (Nw.told_ HN11.out (by omega) (fun k e => HG3.out k (Nat.le_trans HS11.out e))).mono ?_
              rintro r w12 ⟨L3, lc3, lw3, G4, rfl, hcop, hlw, hk12, hn, -, -, -⟩
              have HLEN3 := Lib.hid (show lw3.length = s2.l.length by rw [← hlw, List.length_map])
              have HLW3 := Lib.hid hlw
              have HC3 := Lib.hid hcop
              have HN12 := Lib.hid hn
              have HK12 := Lib.hid hk12
              clear hcop hlw hn hk12
              go_wp2_with (fail)
              refine (Copies20_any L3 L2 lc3 lc2 lw3 lw2 w12 (HC3.out.ccs HLW3.out HN12.out.ok) ((HC11.out.fresh HK12.out).ccs HLW2.out HOK1.out) (by have := HLEN3.out; have := HNL2.out; have := HNL.out; omega)).mono ?_
              rintro r w13 ⟨bb, rfl, hbb, hk13⟩
              have hz := HBB.out bb lw3 HLW3.out hbb
              have HK13 := Lib.hid (HK12.out.trans hk13 fun _ _ e => e)
              clear hbb hk13
              go_wp2_with (fail)
              go_meet
              case rel => exact ⟨rfl, HK13.out⟩
            case rest =>
              as_aux_lemma =>
              obtain ⟨rfl, hk13⟩ := hcut
              have HN13 := Lib.hid (HN11.out.fresh hk13)
              have HA13 := Lib.hid (HA11.out.trans hk13 fun _ _ e => e)
              have HB13 := Lib.hid (HB11.out.kept hk13 id)
              have HS13 := Lib.hid (Nat.le_trans HS11.out hk13.size)
              clear hk13 HN11 HA11 HB11 HC11 HS11 HBB hb2 hx2 HCH HCH2 HAT HLW2 HOK0 HOK1
              obtain ⟨w13, rfl⟩ : ∃ w13 : World, w13 = wc := ⟨_, rfl⟩
              have x2 : w13.cell? ⟨X, 2, none⟩ = some (.int .i64 x.src) := (HB13.out.cell 2).trans rfl
              have x4 : w13.cell? ⟨X, 4, none⟩ = some (.int .i64 x.at_) := (HB13.out.cell 4).trans rfl
              have x5 : w13.cell? ⟨X, 5, none⟩ = some (.slice x.dA x.data.length x.dc) := (HB13.out.cell 5).trans rfl
              have HXC := Lib.hid (HXK.out.fresh HA13.out)
              have hse := Nw.send_ (f := x.src) (t := x.src) (a := x.at_) (A := x.dA) (b := x.data) (c := x.dc) HN13.out (fun k e => HG3.out k (Nat.le_trans HS13.out e)) (by omega) HXC.out.b HXC.out.none HXC.out.by_ HXC.out.len
              rw [Nt.send_self] at hse
              simp only at hse
              go_wp2_with (fail)
              refine hse.mono ?_
              clear hse
              rintro r w14 ⟨rfl, hn, hkk⟩
              have HN14 := Lib.hid hn
              have HA14 := Lib.hid (HA13.out.trans hkk fun k hk e => by have := HGP3.out k e; have := HXP.out; have := HWX.out; omega)
              have HB14 := Lib.hid (HB13.out.kept hkk fun e => by have := HGP3.out _ e; have := HXP.out; omega)
              have HS14 := Lib.hid (Nat.le_trans HS13.out hkk.size)
              clear hn hkk HN13 HA13 HB13 HS13 x2 x4 x5 HXC
              have x2 : w14.cell? ⟨X, 2, none⟩ = some (.int .i64 x.src) := (HB14.out.cell 2).trans rfl
              have x4 : w14.cell? ⟨X, 4, none⟩ = some (.int .i64 x.at_) := (HB14.out.cell 4).trans rfl
              have x5 : w14.cell? ⟨X, 5, none⟩ = some (.slice x.dA x.data.length x.dc) := (HB14.out.cell 5).trans rfl
              have HXC := Lib.hid (HXK.out.fresh HA14.out)
              have hse := Nw.send_ (f := x.src) (t := 0) (a := x.at_) (A := x.dA) (b := x.data) (c := x.dc) HN14.out (fun k e => HG3.out k (Nat.le_trans HS14.out e)) (by omega) HXC.out.b HXC.out.none HXC.out.by_ HXC.out.len
              rw [Nt.send_zero] at hse
              simp only at hse
              go_wp2_with (fail)
              refine hse.mono ?_
              clear hse
              rintro r w15 ⟨rfl, hn, hkk⟩
              have HN15 := Lib.hid hn
              have HA15 := Lib.hid (HA14.out.trans hkk fun k hk e => by have := HGP3.out k e; have := HXP.out; have := HWX.out; omega)
              have HB15 := Lib.hid (HB14.out.kept hkk fun e => by have := HGP3.out _ e; have := HXP.out; omega)
              have HS15 := Lib.hid (Nat.le_trans HS14.out hkk.size)
              clear hn hkk HN14 HA14 HB14 HS14 x2 x4 x5 HXC
              have x2 : w15.cell? ⟨X, 2, none⟩ = some (.int .i64 x.src) := (HB15.out.cell 2).trans rfl
              have x4 : w15.cell? ⟨X, 4, none⟩ = some (.int .i64 x.at_) := (HB15.out.cell 4).trans rfl
              have x5 : w15.cell? ⟨X, 5, none⟩ = some (.slice x.dA x.data.length x.dc) := (HB15.out.cell 5).trans rfl
              have HXC := Lib.hid (HXK.out.fresh HA15.out)
              have hse := Nw.send_ (f := 1) (t := 2) (a := -1) (A := x.dA) (b := x.data) (c := x.dc) HN15.out (fun k e => HG3.out k (Nat.le_trans HS15.out e)) (by omega) HXC.out.b HXC.out.none HXC.out.by_ HXC.out.len
              rw [Nt.send_neg] at hse
              simp only at hse
              go_wp2_with (fail)
              refine hse.mono ?_
              clear hse
              rintro r w16 ⟨rfl, hn, hkk⟩
              have HN16 := Lib.hid hn
              have HA16 := Lib.hid (HA15.out.trans hkk fun k hk e => by have := HGP3.out k e; have := HXP.out; have := HWX.out; omega)
              have HB16 := Lib.hid (HB15.out.kept hkk fun e => by have := HGP3.out _ e; have := HXP.out; omega)
              have HS16 := Lib.hid (Nat.le_trans HS15.out hkk.size)
              clear hn hkk HN15 HA15 HB15 HS15 x2 x4 x5 HXC
              go_wp2_with (fail)
              refine (Nw.told_ HN16.out (by omega) (fun k e => HG3.out k (Nat.le_trans HS16.out e))).mono ?_
              rintro r w17 ⟨L4, lc4, lw4, G5, rfl, -, hlw, hk17, -, -, -, -⟩
              have hlen4 : lw4.length = s0.l.length := by rw [← HNL.out, ← HNL2.out, ← hlw, List.length_map]
              rw [hlen4]
              have HK17 := Lib.hid (HA16.out.trans hk17 fun _ _ e => e)
              clear hlw hk17 hlen4
              go_wp2_with (fail)
              refine (Known20_any w17).mono ?_
              rintro r w18 ⟨rfl, hk⟩
              have HK := Lib.hid (HK17.out.trans hk fun _ _ e => e)
              clear hk
              go_wp2_with (fail)
              go_ret
              exact ⟨rfl, HK.out⟩
end Go.Proofs.Ytopcogogpbcbhaa
