/- The walk of NetOwn: it is true. Conditions: the script lies in memory. -/
import Derived.Test.YtopcogogpbcbhaaNOwP
import Derived.Test.YtopcogogpbcbhaaNRfP
import Derived.Test.YtopcogogpbcbhaaNOpL
namespace Go.Proofs.Ytopcogogpbcbhaa
open Go Go.RowKit

theorem bne_nil (e : Int) : (e != e) = false := by simp
theorem wf_small {m : Nat} (h : m ≤ 100000) : (Lit.int .i64 (m : Int)).wf = true := by
  simp only [Lit.wf, Bool.and_eq_true, decide_eq_true_eq]
  exact ⟨by show (-9223372036854775808 : Int) ≤ m; omega, by show (m : Int) ≤ 9223372036854775807; omega⟩
set_option maxRecDepth 100000 in
set_option maxHeartbeats 6400000 in
theorem Own_walk (A : Option Addr) (c : Nat) (l : List Stn) (w : World) (h : ScnAt w A l) (hl : l.length ≤ 4611686018427387904) :
    Calls Try.prog 9 #[.slice A l.length c] w (KnownPost w) := by
  have HSC := Lib.hid h
  clear h
  go_enter Try.func9, Try.ntmps9
  go_wp2_with (fail)
  refine (Much20_any A l c w HSC.out.steps hl).mono ?_
  rintro r w1 ⟨rfl, hk⟩
  have HA1 := Lib.hid hk
  clear hk
  obtain ⟨bm, hbm⟩ : ∃ bm, muchN l = bm := ⟨_, rfl⟩
  rw [hbm]
  have HBM := Lib.hid hbm
  clear hbm
  cases bm with
  | true =>
    as_aux_lemma =>
    go_wp2_with (fail)
    refine (Known20_any w1).mono ?_
    rintro r w2 ⟨rfl, hk⟩
    have HK := Lib.hid (HA1.out.trans hk fun _ _ e => e)
    clear hk
    go_wp2_with (fail)
    go_ret
    exact ⟨rfl, HK.out⟩
  | false =>
  obtain ⟨hok, hll, -⟩ := HSC.out.ok HBM.out
  have HOK := Lib.hid hok
  clear hok HBM hl
  go_wp2_with (fail)
  refine (Nw.new w1 w1.heap.size (Nat.le_refl _)).mono ?_
  rintro r w2 ⟨rfl, hn, hk⟩
  have HN2 := Lib.hid ((Nob.ob _ _).cut hn)
  have HA2 := Lib.hid (HA1.out.trans hk fun _ _ e => e)
  have HWP := Lib.hid HA1.out.size
  have HPS := Lib.hid hk.size
  clear hn hk HA1
  obtain ⟨p, hp⟩ : ∃ p, w1.heap.size = p := ⟨_, rfl⟩
  rw [hp] at HN2 HWP HPS ⊢
  clear hp
  go_wp2_with (fail)
  refine (Nw.new w2 w2.heap.size (Nat.le_refl _)).mono ?_
  rintro r w3 ⟨rfl, hn, hk⟩
  have HP := Lib.hid (show Pair (Nob p ⟨0, []⟩) (Nob w2.heap.size ⟨0, []⟩) (fun k => p ≤ k) w3 from Pair.make (Nob.ob _ _) (Nob.ob _ _) ((Nob.ob _ _).fresh HN2.out hk) hn (fun k e1 e2 e3 => by omega) (fun k e => e.1) (fun k e => Nat.le_trans HPS.out e))
  have HA3 := Lib.hid (HA2.out.trans hk fun _ _ e => e)
  have HPS := Lib.hid (Nat.le_trans HPS.out hk.size)
  clear hn hk HA2 HN2
  obtain ⟨q, hq⟩ : ∃ q, w2.heap.size = q := ⟨_, rfl⟩
  rw [hq] at HP ⊢
  clear hq
  go_wp2_with (fail)
  go_loopw [5] (fun i wr => ∃ k : Nat, i = .int .i64 k ∧ k ≤ l.length ∧ Pair (Nob p (Nt.play ⟨0, []⟩ (l.take k))) (Nob q (Nt.play ⟨0, []⟩ (l.take k))) (fun k => p ≤ k) wr ∧ Kept (fun k => p ≤ k) w3 wr) (fun i _ => l.length - (intOf i).toNat)
  case atStart => exact ⟨0, rfl, Nat.zero_le _, HP.out, Kept.refl _ _⟩
  case round =>
    obtain ⟨k, rfl, hk, hn, hkk⟩ := hrel
    have HPR := Lib.hid hn
    have HK := Lib.hid hkk
    have HA := Lib.hid (HA3.out.trans hkk fun j hj e => by have := HWP.out; omega)
    have HPW := Lib.hid (Nat.le_trans HPS.out hkk.size)
    have hlast : (Nt.play ⟨0, []⟩ (l.take k)).last ≤ k := by
      have := Nt.play_last ⟨0, []⟩ (l.take k)
      rw [List.length_take] at this
      have e : (⟨0, []⟩ : Nt).last = 0 := rfl
      omega
    clear hn hkk HP
    by_cases hlt : k < l.length
    · obtain ⟨ad, rfl, x0, x1⟩ := HSC.out.steps.fresh HA.out k hlt
      have HST := Lib.hid (Nt.play_take ⟨0, []⟩ l k hlt)
      obtain ⟨y, hy⟩ : ∃ y, l[k] = y := ⟨_, rfl⟩
      have HOX := Lib.hid (show StnOk w y by rw [← hy]; exact HOK.out l[k] (List.getElem_mem hlt))
      rw [hy] at x0 x1 HST
      have HX0 := Lib.hid x0
      have HX1 := Lib.hid x1
      clear x0 x1
      obtain ⟨s0, hs0⟩ : ∃ s0, Nt.play ⟨0, []⟩ (l.take k) = s0 := ⟨_, rfl⟩
      rw [hs0] at HPR HST hlast
      clear hs0
      obtain ⟨s1, hs1⟩ : ∃ s1, (s0.step y).2 = s1 := ⟨_, rfl⟩
      have hl1 : s1.last ≤ 201 := by have := s0.step_last y; rw [hs1] at this; omega
      obtain ⟨H4, h1, h2, h3, h4⟩ := HPR.out.left (Nob.ob _ _) (Nob.ob _ _) (fun j e => Nat.le_trans HPW.out e)
      have HH4 := Lib.hid h4
      have HH1 := Lib.hid h1
      have HH2 := Lib.hid h2
      clear h1 h2 h3 h4 HPR
      go_wp2_with (refine load_stn rfl _ rfl _ rfl y HX0.out HX1.out ?_)
      refine (Nw.do_ HH1.out HH2.out (by omega) (HOX.out.fresh HA.out)).mono ?_
      rintro r w4 ⟨rfl, hn, hkk⟩
      obtain ⟨hp, hkk⟩ := HH4.out _ _ (Nob.ob _ _) hn hkk
      have HP4 := Lib.hid hp
      have HA4 := Lib.hid (HA.out.trans hkk fun j hj e => by have := HWP.out; omega)
      have HK4 := Lib.hid (HK.out.trans hkk fun _ _ e => e)
      have HW4 := Lib.hid (Nat.le_trans HPW.out hkk.size)
      clear hn hp hkk HH1 HH2 HH4 HX0 HX1 HA HK HPW
      obtain ⟨ad', e9, x0, x1⟩ := HSC.out.steps.fresh HA4.out k hlt
      injection e9 with e9
      subst e9
      rw [hy] at x0 x1
      have HX0 := Lib.hid x0
      have HX1 := Lib.hid x1
      clear x0 x1 hy
      obtain ⟨H5, h1, h2, h3, h4⟩ := HP4.out.right (Nob.ob _ _) (Nob.ob _ _) (fun j e => Nat.le_trans HW4.out e)
      have HH4 := Lib.hid h4
      have HH1 := Lib.hid h1
      have HH2 := Lib.hid h2
      clear h1 h2 h3 h4 HP4
      go_wp2_with (refine load_stn rfl _ rfl _ rfl y HX0.out HX1.out ?_)
      refine (Nw.do_ HH1.out HH2.out (by omega) (HOX.out.fresh HA4.out)).mono ?_
      rintro r w5 ⟨rfl, hn, hkk⟩
      obtain ⟨hp, hkk⟩ := HH4.out _ _ (Nob.ob _ _) hn hkk
      rw [hs1] at hp
      have HP5 := Lib.hid hp
      have HA5 := Lib.hid (HA4.out.trans hkk fun j hj e => by have := HWP.out; omega)
      have HK5 := Lib.hid (HK4.out.trans hkk fun _ _ e => e)
      have HW5 := Lib.hid (Nat.le_trans HW4.out hkk.size)
      have HOK1 := Lib.hid (show s1.Ok from by obtain ⟨_, _, h1, _⟩ := hp; exact Nw.ok h1)
      rw [hs1] at HST
      clear hn hp hkk HH1 HH2 HH4 HX0 HX1 HA4 HK4 HW4 hs1 HOX hlast
      -- what a tells
      obtain ⟨H6, h1, h2, h3, h4⟩ := HP5.out.left (Nob.ob _ _) (Nob.ob _ _) (fun j e => Nat.le_trans HW5.out e)
      have HH1 := Lib.hid h1
      clear h1 h2 h3 h4
      go_wp2_with (fail)
      refine (Nw.copies_ HH1.out (by omega)).mono ?_
      rintro r w6 ⟨X, xc, lx, F6, rfl, hcop, hlx, hkk, -, -⟩
      obtain ⟨b, hb⟩ : ∃ b, w5.heap.size = b := ⟨_, rfl⟩
      have hcnt := HOK1.out.count
      have hsm : Sm lx := fun z hz => (HOK1.out.len _ (by rw [← hlx]; exact List.mem_map_of_mem hz)).2
      have HP6 := Lib.hid ((Pair.ob (Nob.ob _ _) (Nob.ob _ _)).fresh ((Pair.ob (Nob.ob _ _) (Nob.ob _ _)).cut HP5.out) hkk)
      rw [hb] at hcop HP6 HW5
      have HC6 := Lib.hid hcop
      have HS6 := Lib.hid hsm
      have HA6 := Lib.hid (HA5.out.trans hkk fun _ _ e => e)
      have HK6 := Lib.hid (HK5.out.trans hkk fun _ _ e => e.elim)
      have HB6 := Lib.hid (show b ≤ w6.heap.size by rw [← hb]; exact hkk.size)
      have hn1 : lx.length ≤ 202 := by
        have : lx.length = s1.l.length := by rw [← hlx, List.length_map]
        omega
      obtain ⟨n, hn⟩ : ∃ n, lx.length = n := ⟨_, rfl⟩
      rw [hn] at hn1 ⊢
      have HN := Lib.hid hn
      clear hcop hlx hkk hsm hcnt hb hn HP5 HA5 HK5 HH1
      go_wp2_with (fail)
      go_loopw [7] (fun i wr => ∃ (m : Nat) (l' : List Cc), i = .int .i64 m ∧ m ≤ n ∧ l'.length = n ∧ CopAt wr b X xc l' ∧ Fl l' m ∧ Sm l' ∧ Kept (fun j => b ≤ j) w6 wr) (fun i _ => n - (intOf i).toNat)
      case atStart => exact ⟨0, lx, rfl, Nat.zero_le _, HN.out, HC6.out, Fl.zero _, HS6.out, Kept.refl _ _⟩
      case round =>
        obtain ⟨m, l1, rfl, hm, hl1n, hc, hf, hs, hkk⟩ := hrel
        have HC := Lib.hid hc
        have HF := Lib.hid hf
        have HS := Lib.hid hs
        have HKI := Lib.hid hkk
        have HL1 := Lib.hid hl1n
        clear hc hf hs hkk hl1n HC6 HS6 HN
        by_cases hmn : m < n
        · as_aux_lemma =>
          have hm0 : (0 : Int) ≤ (m : Int) := by omega
          have hmi : (m : Int) < (n : Int) := by omega
          have hwa : IntKind.i64.wrap ((m : Int) + 1) = (m : Int) + 1 := IntWalk.i64_in _ ⟨by omega, by omega⟩
          have hwc : IntKind.u8.wrap ((m : Int) + 1) = (m : Int) + 1 := IntWalk.u8_in _ ⟨by omega, by omega⟩
          go_wp2_with (fail)
          go_loopw [8] (fun i wr => ∃ (j : Nat) (l' : List Cc), i = .int .i64 j ∧ j ≤ 60000 ∧ l'.length = n ∧ CopAt wr b X xc l' ∧ Fl l' m ∧ Fj l' m j ∧ Sm l' ∧ Kept (fun j => b ≤ j) w6 wr) (fun i _ => 60001 - (intOf i).toNat)
          case atStart => exact ⟨0, l1, rfl, by omega, HL1.out, HC.out, HF.out, Fj.zero _ _, HS.out, HKI.out⟩
          case round =>
            obtain ⟨j, l2, rfl, hj, hl2, hc, hf, hfj, hs, hkk⟩ := hrel
            have hm2 : m < l2.length := by omega
            have hsm := hs _ (List.getElem_mem hm2)
            have HC2 := Lib.hid hc
            have HF2 := Lib.hid hf
            have HFJ := Lib.hid hfj
            have HS2 := Lib.hid hs
            have HK2 := Lib.hid hkk
            have HL2 := Lib.hid hl2
            obtain ⟨g, e1, -, hcell, -⟩ := own_cells hc.row (by omega)
            subst e1
            have y3 : wr.cell? ⟨g, m * 6 + 3, none⟩ = some (.slice l2[m].A l2[m].c.data.length l2[m].cap) := hcell (m * 6 + 3) _ (by rw [ccs_cell hm2 3 (by omega)]; rfl)
            clear hcell hc hf hfj hs hkk hl2 HC HF HS HKI HL1
            by_cases hjd : j < l2[m].c.data.length
            · obtain ⟨g2, e2, hbg, hcv, hfz, hput⟩ := HC2.out.put hm2 hjd ((m : Int) + 1)
              have HPUT := Lib.hid hput
              have HKP := Lib.hid ((HK2.out.at (g := g2) j (.int .u8 ((m : Int) + 1)) (.inl hbg)))
              have HFN := Lib.hid (HFJ.out.put hm2)
              have HFL := Lib.hid (HF2.out.put ⟨l2[m].dat (l2[m].c.data.set j ((m : Int) + 1)), l2[m].A, l2[m].cap⟩)
              have HSN := Lib.hid (HS2.out.put (m := m) ⟨l2[m].dat (l2[m].c.data.set j ((m : Int) + 1)), l2[m].A, l2[m].cap⟩ (by simp only [Cc.dat, List.length_set]; exact hsm))
              have HLN := Lib.hid (show (l2.set m ⟨l2[m].dat (l2[m].c.data.set j ((m : Int) + 1)), l2[m].A, l2[m].cap⟩).length = n by rw [List.length_set]; exact HL2.out)
              obtain ⟨l3, hl3⟩ : ∃ l3, l2.set m ⟨l2[m].dat (l2[m].c.data.set j ((m : Int) + 1)), l2[m].A, l2[m].cap⟩ = l3 := ⟨_, rfl⟩
              have e9 : ((m + 1 : Nat) : Int) = (m : Int) + 1 := by omega
              rw [e9] at HFN
              rw [hl3] at HPUT HFN HFL HSN HLN
              rw [e2] at y3
              have hj0 : (0 : Int) ≤ (j : Int) := by omega
              have hj6 : j + 1 ≤ 60000 := by omega
              obtain ⟨dl, hdl⟩ : ∃ dl, l2[m].c.data.length = dl := ⟨_, rfl⟩
              obtain ⟨ov, hov⟩ : ∃ ov, l2[m].c.data[j] = ov := ⟨_, rfl⟩
              obtain ⟨cp, hcp⟩ : ∃ cp, l2[m].cap = cp := ⟨_, rfl⟩
              rw [hov] at hcv
              rw [hcp] at y3
              have hji : (j : Int) < (dl : Int) := by omega
              rw [hdl] at y3
              clear hdl hov hcp hl3 hput hbg e2 e9 hjd hsm HC2 HF2 HFJ HS2 HK2 HL2
              go_wp2_with (fail)
              go_roundw
              case rel => exact ⟨j + 1, l3, by go_num, hj6, HLN.out, HPUT.out, HFL.out, HFN.out, HSN.out, HKP.out⟩
              case measure => simp [intOf]; omega
            · have HFL := Lib.hid (HF2.out.next HFJ.out (fun h => by omega))
              obtain ⟨dl, hdl⟩ : ∃ dl, l2[m].c.data.length = dl := ⟨_, rfl⟩
              have hji : ¬ (j : Int) < (dl : Int) := by omega
              obtain ⟨cp, hcp⟩ : ∃ cp, l2[m].cap = cp := ⟨_, rfl⟩
              obtain ⟨pa, hpa⟩ : ∃ pa, l2[m].A = pa := ⟨_, rfl⟩
              rw [hdl, hcp, hpa] at y3
              clear hdl hcp hpa hjd hsm HFJ HF2
              go_wp2_with (fail)
              go_roundw
              case rel => exact ⟨m + 1, l2, by go_num, by omega, HL2.out, HC2.out, HFL.out, HS2.out, HK2.out⟩
              case measure => simp [intOf]; omega
        obtain rfl : m = n := by omega
        have HFR := Lib.hid (show Fr l1 0 from Fr.of (by rw [HL1.out]; exact HF.out) HS.out)
        clear HF HS
        have hbs : b ≤ wr.heap.size := Nat.le_trans HB6.out HKI.out.size
        obtain ⟨w7, rfl⟩ : ∃ w7 : World, w7 = wr := ⟨_, rfl⟩
        have HROW := Lib.hid (show w7.ownsRow b 44 6 (.slice X m xc) m (ccs l1) by have := HC.out.row; rwa [HL1.out] at this)
        go_wp2_with (at_builtin; refine wpList_append_row eltCps rfl _ _ rfl b _ m (ccs l1) rfl HROW.out 1 1 rfl rfl rfl (by omega) hbs ?_)
        intro A2 c2 w8 _ HK8 _ HR8
        have HC8 := Lib.hid (HC.out.row_ (by rw [HL1.out]; exact HK8.out) (by rw [HL1.out]; exact HR8.out))
        have HKJ := Lib.hid (HKI.out.trans HK8.out fun j _ e => (HROW.out.lt j e).1)
        clear HK8 HR8 HROW HC HKI hbs
        go_wp2_with (fail)
        go_loopw [10] (fun i wr => ∃ (k : Nat) (l' : List Cc), i = .int .i64 k ∧ k ≤ m ∧ l'.length = m ∧ CopAt wr b X xc l' ∧ Fr l' k ∧ Kept (fun j => b ≤ j) w6 wr) (fun i _ => m - (intOf i).toNat)
        case atStart => exact ⟨0, l1, rfl, Nat.zero_le _, HL1.out, HC8.out, HFR.out, HKJ.out⟩
        case round =>
          obtain ⟨t, l2, rfl, ht, hl2, hc, hf, hkk⟩ := hrel
          have HC2 := Lib.hid hc
          have HF2 := Lib.hid hf
          have HK2 := Lib.hid hkk
          have HL2 := Lib.hid hl2
          clear hc hf hkk hl2 HC8 HFR HKJ HL1
          by_cases htm : t < m
          · as_aux_lemma =>
            have ht2 : t < l2.length := by rw [HL2.out]; exact htm
            obtain ⟨hdl, hdv⟩ := HF2.out t ht2 (Nat.le_refl _)
            have ht0 : (0 : Int) ≤ (t : Int) := by omega
            have hti : (t : Int) < (m : Int) := by omega
            have hwa : IntKind.i64.wrap ((t : Int) + 1) = (t : Int) + 1 := IntWalk.i64_in _ ⟨by omega, by omega⟩
            have hwc : IntKind.u8.wrap ((t : Int) + 1) = (t : Int) + 1 := IntWalk.u8_in _ ⟨by omega, by omega⟩
            obtain ⟨g, e1, -, hcell, -⟩ := own_cells HC2.out.row (by omega)
            subst e1
            have y3 : wr.cell? ⟨g, t * 6 + 3, none⟩ = some l2[t].dV := hcell (t * 6 + 3) _ (by rw [ccs_cell ht2 3 (by omega)]; rfl)
            have HOW := Lib.hid (HC2.out.d _ (List.getElem_mem ht2))
            have hbs : b ≤ wr.heap.size := Nat.le_trans HB6.out HK2.out.size
            have HDV := Lib.hid hdv
            obtain ⟨dl, hdle⟩ : ∃ dl, l2[t].c.data.length = dl := ⟨_, rfl⟩
            have HDL := Lib.hid hdle
            have hdl' : dl ≤ 60000 := by omega
            unfold Cc.dV at y3
            have HOW' := Lib.hid (show wr.ownsRow b 5 1 (.slice l2[t].A dl l2[t].cap) dl (bys l2[t].c.data) by have := HOW.out; unfold Cc.dV at this; rwa [hdle] at this)
            rw [hdle] at y3
            obtain ⟨pa, hpa⟩ : ∃ pa, l2[t].A = pa := ⟨_, rfl⟩
            obtain ⟨cp, hcp⟩ : ∃ cp, l2[t].cap = cp := ⟨_, rfl⟩
            have HDVE := Lib.hid (show l2[t].dV = .slice pa dl cp by unfold Cc.dV; rw [hpa, hcp, hdle])
            rw [hpa, hcp] at y3 HOW'
            clear hcell hdv hdle hpa hcp HOW hdl
            obtain ⟨w9, rfl⟩ : ∃ w9 : World, w9 = wr := ⟨_, rfl⟩
            go_wp2_with (at_builtin; refine wpList_append_row eltBytes rfl _ _ rfl b _ dl (bys l2[t].c.data) rfl HOW'.out 1 1 rfl rfl rfl (by omega) hbs ?_)
            intro A3 c3 w10 HO HK HG _
            obtain ⟨g', e1, hbg, z3, hfz, hgo⟩ := HC2.out.go ht2 (l2[t].c.data ++ [200]) A3 c3 (dl + 1) (by rw [List.length_append, HDL.out]; rfl) (by rw [HDVE.out]; exact HK.out) (by rw [HDVE.out]; exact HG.out) (by have := HO.out; rwa [show bys l2[t].c.data ++ #[Value.int .u8 200].toList = bys (l2[t].c.data ++ [200]) by simp [bys]] at this)
            injection e1 with e1
            injection e1 with e1 _ _
            subst e1
            have HGO := Lib.hid hgo
            have HK3 := Lib.hid (Kept.at (g := g) (HK2.out.trans HK.out fun j _ e => (HOW'.out.lt j e).1) (t * 6 + 3) (.slice A3 (dl + 1) c3) (.inl hbg))
            rw [HDVE.out] at z3
            have HFN := Lib.hid (HF2.out.put ⟨l2[t].dat (l2[t].c.data ++ [200]), A3, c3⟩)
            have HLN := Lib.hid (show (l2.set t ⟨l2[t].dat (l2[t].c.data ++ [200]), A3, c3⟩).length = m by rw [List.length_set]; exact HL2.out)
            have HTT := Lib.hid (show ∃ h : t < (l2.set t ⟨l2[t].dat (l2[t].c.data ++ [200]), A3, c3⟩).length, (l2.set t ⟨l2[t].dat (l2[t].c.data ++ [200]), A3, c3⟩)[t] = ⟨l2[t].dat (l2[t].c.data ++ [200]), A3, c3⟩ from ⟨by rw [List.length_set]; exact ht2, by simp⟩)
            obtain ⟨d, hd⟩ : ∃ d, l2[t].c.data = d := ⟨_, rfl⟩
            obtain ⟨l3, hl3⟩ : ∃ l3, l2.set t ⟨l2[t].dat (l2[t].c.data ++ [200]), A3, c3⟩ = l3 := ⟨_, rfl⟩
            rw [hl3] at HGO HFN HLN
            have HTT' := Lib.hid (show ∃ h : t < l3.length, l3[t].A = A3 ∧ l3[t].cap = c3 ∧ l3[t].c.data = d ++ [200] by
              obtain ⟨h, e⟩ := HTT.out
              subst hl3
              exact ⟨h, by rw [e], by rw [e], by rw [e, ← hd]; rfl⟩)
            rw [hd] at HDV HDL
            have hgn : b ≤ (w10.setCell ⟨g, t * 6 + 3, none⟩ (.slice A3 (dl + 1) c3)).heap.size := Nat.le_trans HB6.out HK3.out.size
            clear hd hl3 hgo HOW' HO HK HG HDVE HC2 HF2 HK2 HL2 HTT y3 hbs
            go_wp2_with (fail)
            generalize w10.setCell ⟨g, t * 6 + 3, none⟩ (.slice A3 (dl + 1) c3) = w11 at HGO HK3 hgn ⊢
            obtain ⟨htl, eA, ec, ed⟩ := HTT'.out
            obtain ⟨g4, e4, -, hcell, -⟩ := own_cells HGO.out.row (by omega)
            injection e4 with e4
            injection e4 with e4 _ _
            subst e4
            have y3 : w11.cell? ⟨g, t * 6 + 3, none⟩ = some (.slice A3 (dl + 1) c3) := hcell (t * 6 + 3) _ (by
              rw [ccs_cell htl 3 (by omega)]
              show some (Value.slice l3[t].A l3[t].c.data.length l3[t].cap) = _
              rw [eA, ec, ed, List.length_append, HDL.out]
              rfl)
            have hod := HGO.out.d _ (List.getElem_mem htl)
            unfold Cc.dV at hod
            rw [eA, ec, ed, List.length_append, HDL.out] at hod
            obtain ⟨g5, e5, -, hdc, -⟩ := own_cells hod (by simp)
            subst e5
            have HDC := Lib.hid (show ∀ j, j < dl → w11.cell? ⟨g5, j, none⟩ = some (.int .u8 ((t : Int) + 1)) from fun j hj => hdc j _ (by
              have hjd : j < d.length := by rw [HDL.out]; exact hj
              have e := HDV.out d[j] (List.getElem_mem hjd)
              simp only [bys, List.map_append, List.getElem?_append_left (show j < (d.map (Value.int .u8)).length by simpa using hjd), List.getElem?_map, List.getElem?_eq_getElem hjd, Option.map_some]
              rw [e]
              rfl))
            clear hcell hod hdc eA ec ed htl HTT' HDV HDL z3 hfz
            go_loopw [11] (fun i wr => ∃ j : Nat, i = .int .i64 j ∧ j ≤ dl ∧ wr = w11) (fun i _ => dl - (intOf i).toNat)
            case atStart => exact ⟨0, rfl, Nat.zero_le _, rfl⟩
            case round =>
              obtain ⟨j, rfl, hj, rfl⟩ := hrel
              have hwj : IntKind.i64.wrap ((j : Int) + 1) = (j : Int) + 1 := IntWalk.i64_in _ ⟨by omega, by omega⟩
              have hj0 : (0 : Int) ≤ (j : Int) := by omega
              have hjd1 : (j : Int) < (dl : Int) + 1 := by omega
              by_cases hjd : j < dl
              · have hji : (j : Int) + 1 < (dl : Int) + 1 := by omega
                have hjv := HDC.out j hjd
                have hne : (((t : Int) + 1) != ((t : Int) + 1)) = false := bne_nil _
                go_wp2_with (fail)
                go_roundw
                case rel => exact ⟨j + 1, by go_num, by omega, by trivial⟩
                case measure => simp [intOf]; omega
              · have hji : ¬ (j : Int) + 1 < (dl : Int) + 1 := by omega
                go_wp2_with (fail)
                go_roundw
                case rel => exact ⟨t + 1, l3, by go_num, by omega, HLN.out, HGO.out, HFN.out, HK3.out⟩
                case measure => simp [intOf]; omega
          obtain rfl : t = m := by omega
          have HP9 := Lib.hid ((Pair.ob (Nob.ob _ _) (Nob.ob _ _)).more ((Pair.ob (Nob.ob _ _) (Nob.ob _ _)).kept HP6.out HK2.out fun j e e' => by omega) (S := fun j => p ≤ j) fun j e => e.1)
          have HK9 := Lib.hid (HK6.out.trans HK2.out fun j _ e => Nat.le_trans HW5.out e)
          have HA9 := Lib.hid (HA6.out.trans HK2.out fun j hj e => by have := HWP.out; have := HW5.out; omega)
          have HW9 := Lib.hid (Nat.le_trans HPS.out HK9.out.size)
          have hwt : IntKind.i64.wrap ((t : Int) + 1) = (t : Int) + 1 := IntWalk.i64_in _ ⟨by omega, by omega⟩
          have hnt : ((t : Int) + 1 != (t : Int) + 1) = false := bne_nil _
          clear HP6 HK6 HA6 HC2 HF2 HK2 HL2 HB6 HW5
          obtain ⟨w9, rfl⟩ : ∃ w9 : World, w9 = wr := ⟨_, rfl⟩
          go_upto_region 30 with (fail)
          go_cut [131] (fun v wx => v = .bool false ∧ Kept (fun _ => False) w9 wx)
          case first =>
            obtain ⟨Ha, h1, h2, h3, h4⟩ := HP9.out.left (Nob.ob _ _) (Nob.ob _ _) (fun j e => Nat.le_trans HW9.out e)
            obtain ⟨Hb, g1, g2, g3, g4⟩ := HP9.out.right (Nob.ob _ _) (Nob.ob _ _) (fun j e => Nat.le_trans HW9.out e)
            have HNA := Lib.hid h1
            have HNB := Lib.hid g1
            clear h1 h2 h3 h4 g1 g2 g3 g4
            go_wp2_with (fail)
            refine (Nw.copies_ HNA.out (by omega)).mono ?_
            rintro r v1 ⟨La, lca, lwa, Fa, rfl, hcop, hlw, hk, -, -⟩
            have HCA := Lib.hid hcop
            have HLA := Lib.hid hlw
            have HKA := Lib.hid hk
            clear hcop hlw hk
            go_wp2_with (fail)
            refine (Nw.copies_ (Nw.fresh HNB.out HKA.out) (by omega)).mono ?_
            rintro r v2 ⟨Lb, lcb, lwb, Fb, rfl, hcop, hlw, hk, -, -⟩
            have HCB := Lib.hid hcop
            have HLB := Lib.hid hlw
            have HKB := Lib.hid hk
            clear hcop hlw hk
            have HOKK := Lib.hid (Nw.ok HNA.out)
            have hcnt := HOKK.out.count
            have hll2 : lwa.length ≤ 1000000 := by
              have : lwa.length = s1.l.length := by rw [← HLA.out, List.length_map]
              omega
            go_wp2_with (fail)
            refine (Copies20_any La Lb lca lcb lwa lwb v2 (CcsAt.of (HCA.out.fresh HKB.out) fun z hz => by have := (HOKK.out.len _ (by rw [← HLA.out]; exact List.mem_map_of_mem hz)).2; omega) (CcsAt.of HCB.out fun z hz => by have := (HOKK.out.len _ (by rw [← HLB.out]; exact List.mem_map_of_mem hz)).2; omega) hll2).mono ?_
            rintro r v3 ⟨bb, rfl, hbb, hk⟩
            obtain rfl : bb = true := hbb.2 (by rw [tells_of HLA.out, tells_of HLB.out])
            have HK3 := Lib.hid ((HKA.out.trans HKB.out fun _ _ e => e).trans hk fun _ _ e => e)
            clear hk hbb
            go_wp2_with (fail)
            go_meet
            case rel => exact ⟨rfl, HK3.out⟩
          case rest =>
            obtain ⟨rfl, hkk⟩ := hcut
            have HPN := Lib.hid ((Pair.ob (Nob.ob _ _) (Nob.ob _ _)).fresh HP9.out hkk)
            have HKN := Lib.hid (HK9.out.trans hkk fun _ _ e => e.elim)
            clear hkk
            go_wp2_with (fail)
            go_roundw
            case rel => exact ⟨k + 1, by go_num, by omega, by rw [HST.out]; exact HPN.out, HKN.out⟩
            case measure => simp [intOf]; omega
    obtain rfl : k = l.length := by omega
    rw [List.take_length] at HPR hlast
    obtain ⟨s0, hs0⟩ : ∃ s0, Nt.play ⟨0, []⟩ l = s0 := ⟨_, rfl⟩
    rw [hs0] at HPR hlast
    clear hs0 HOK HSC HK
    obtain ⟨w4, rfl⟩ : ∃ w4 : World, w4 = wr := ⟨_, rfl⟩
    go_wp2_with (fail)
    go_loopw [12] (fun i wr => ∃ (m : Nat) (s : Nt), i = .int .i64 m ∧ 1 ≤ m ∧ m ≤ l.length + 1 ∧ s.last ≤ 200 + m ∧ Pair (Nob p s) (Nob q s) (fun k => p ≤ k) wr ∧ Kept (fun k => p ≤ k) w4 wr) (fun i _ => l.length + 1 - (intOf i).toNat)
    case atStart => exact ⟨1, s0, rfl, by omega, by omega, by omega, HPR.out, Kept.refl _ _⟩
    case round =>
      obtain ⟨m, s, rfl, hm1, hm2, hsl, hp, hkk⟩ := hrel
      have HP := Lib.hid hp
      have HW := Lib.hid (Nat.le_trans HPW.out hkk.size)
      have HK := Lib.hid hkk
      clear hp hkk HPR hlast
      by_cases hml : m ≤ l.length
      · as_aux_lemma =>
        have hmi : (m : Int) ≤ (l.length : Int) := by omega
        have hwf := wf_small (m := m) (by omega)
        have hdl := s.double_last (m : Int)
        obtain ⟨H4, h1, h2, h3, h4⟩ := HP.out.left (Nob.ob _ _) (Nob.ob _ _) (fun j e => Nat.le_trans HW.out e)
        have hda := Nw.double_ (n := (m : Int)) h1 h2 (by omega) hwf
        have HH4 := Lib.hid h4
        obtain ⟨z, hz⟩ : ∃ z, s.double (m : Int) = z := ⟨_, rfl⟩
        rw [hz] at hda hdl
        have HZ := Lib.hid hz
        obtain ⟨⟨a1, e1⟩, s1⟩ := z
        simp only at hda hdl
        clear h1 h2 h3 h4 hz
        go_wp2_with (fail)
        refine hda.mono ?_
        clear hda
        rintro r w5 ⟨rfl, hn, hkk⟩
        obtain ⟨hp, hkk⟩ := HH4.out _ _ (Nob.ob _ _) hn hkk
        have HP5 := Lib.hid hp
        have HW5 := Lib.hid (Nat.le_trans HW.out hkk.size)
        have HK5 := Lib.hid (HK.out.trans hkk fun _ _ e => e)
        clear hn hp hkk HH4 HP HW HK
        obtain ⟨H5, h1, h2, h3, h4⟩ := HP5.out.right (Nob.ob _ _) (Nob.ob _ _) (fun j e => Nat.le_trans HW5.out e)
        have hda := Nw.double_ (n := (m : Int)) h1 h2 (by omega) hwf
        have HH4 := Lib.hid h4
        rw [HZ.out] at hda
        simp only at hda
        clear h1 h2 h3 h4
        have hn1 : (a1 != a1) = false := bne_nil _
        have hn2 : (e1 != e1) = false := bne_nil _
        go_wp2_with (fail)
        refine hda.mono ?_
        clear hda
        rintro r w6 ⟨rfl, hn, hkk⟩
        obtain ⟨hp, hkk⟩ := HH4.out _ _ (Nob.ob _ _) hn hkk
        have HP6 := Lib.hid hp
        have HK6 := Lib.hid (HK5.out.trans hkk fun _ _ e => e)
        clear hn hp hkk HH4 HP5 HW5 HK5
        go_wp2_with (fail)
        go_roundw
        case rel => exact ⟨m + 1, s1, by go_num, by omega, by omega, by omega, HP6.out, HK6.out⟩
        case measure => simp [intOf]; omega
      have hmi : ¬ (m : Int) ≤ (l.length : Int) := by omega
      have HA9 := Lib.hid (HA.out.trans HK.out fun j hj e => by have := HWP.out; omega)
      obtain ⟨w9, rfl⟩ : ∃ w9 : World, w9 = wr := ⟨_, rfl⟩
      obtain ⟨Ha, h1, h2, h3, h4⟩ := HP.out.left (Nob.ob _ _) (Nob.ob _ _) (fun j e => Nat.le_trans HW.out e)
      obtain ⟨Hb, g1, g2, g3, g4⟩ := HP.out.right (Nob.ob _ _) (Nob.ob _ _) (fun j e => Nat.le_trans HW.out e)
      have HNA := Lib.hid h1
      have HNB := Lib.hid g1
      clear h1 h2 h3 h4 g1 g2 g3 g4
      go_wp2_with (fail)
      refine (Nw.copies_ HNA.out (by omega)).mono ?_
      rintro r v1 ⟨La, lca, lwa, Fa, rfl, hcop, hlw, hk, -, -⟩
      have HCA := Lib.hid hcop
      have HLA := Lib.hid hlw
      have HKA := Lib.hid hk
      clear hcop hlw hk
      go_wp2_with (fail)
      refine (Nw.copies_ (Nw.fresh HNB.out HKA.out) (by omega)).mono ?_
      rintro r v2 ⟨Lb, lcb, lwb, Fb, rfl, hcop, hlw, hk, -, -⟩
      have HCB := Lib.hid hcop
      have HLB := Lib.hid hlw
      have HKB := Lib.hid hk
      clear hcop hlw hk
      have HOKK := Lib.hid (Nw.ok HNA.out)
      have hcnt := HOKK.out.count
      have hll2 : lwa.length ≤ 1000000 := by
        have : lwa.length = s.l.length := by rw [← HLA.out, List.length_map]
        omega
      go_wp2_with (fail)
      refine (Copies20_any La Lb lca lcb lwa lwb v2 (CcsAt.of (HCA.out.fresh HKB.out) fun z hz => by have := (HOKK.out.len _ (by rw [← HLA.out]; exact List.mem_map_of_mem hz)).2; omega) (CcsAt.of HCB.out fun z hz => by have := (HOKK.out.len _ (by rw [← HLB.out]; exact List.mem_map_of_mem hz)).2; omega) hll2).mono ?_
      rintro r v3 ⟨bb, rfl, hbb, hk⟩
      obtain rfl : bb = true := hbb.2 (by rw [tells_of HLA.out, tells_of HLB.out])
      have HK3 := Lib.hid ((HKA.out.trans HKB.out fun _ _ e => e).trans hk fun _ _ e => e)
      clear hk hbb
      go_wp2_with (fail)
      refine (Known20_any v3).mono ?_
      rintro r v4 ⟨rfl, hk⟩
      have HK4 := Lib.hid ((HA9.out.trans HK3.out fun _ _ e => e).trans hk fun _ _ e => e)
      clear hk
      go_wp2_with (fail)
      go_ret
      exact ⟨rfl, HK4.out⟩
end Go.Proofs.Ytopcogogpbcbhaa
