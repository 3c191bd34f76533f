/- The walk of NetMeans: it is true. Conditions: the script lies in memory. -/
import Derived.Test.YtopcogogpbcbhaaNMeM
import Derived.Test.YtopcogogpbcbhaaNOpL
namespace Go.Proofs.Ytopcogogpbcbhaa
open Go Go.RowKit

theorem bne_one (e : Int) : (e != e) = false := by simp
set_option maxRecDepth 100000 in
set_option maxHeartbeats 30000000 in
theorem Means_walk (A : Option Addr) (c : Nat) (l : List Stn) (w : World) (h : ScnAt w A l) (hl : l.length ≤ 4611686018427387904) :
    Calls Try.prog 6 #[.slice A l.length c] w (KnownPost w) := by
  have HSC := Lib.hid h
  clear h
  go_enter Try.func6, Try.ntmps6
  go_wp2_with (fail)
  refine (Much20_any A l c w HSC.out.steps hl).mono ?_
  rintro r w1 ⟨rfl, hk⟩
  have HA1 := Lib.hid hk
  clear hk
  obtain ⟨bm, hbm⟩ : ∃ bm, muchN l = bm := ⟨_, rfl⟩
  rw [hbm]
  have HBM := Lib.hid hbm
  clear hbm
  cases bm with
  | true =>
    as_aux_lemma =>
      go_wp2_with (fail)
      refine (Known20_any w1).mono ?_
      rintro r w2 ⟨rfl, hk⟩
      have HK := Lib.hid (HA1.out.trans hk fun _ _ e => e)
      clear hk
      go_wp2_with (fail)
      go_ret
      exact ⟨rfl, HK.out⟩
  | false =>
  by_cases hlx : 100 < l.length
  case' pos =>
    as_aux_lemma =>
    have hlx' : (100 : Int) < (l.length : Int) := by omega
    go_wp2_with (fail)
    refine (Known20_any w1).mono ?_
    rintro r w2 ⟨rfl, hk⟩
    have HK := Lib.hid (HA1.out.trans hk fun _ _ e => e)
    clear hk
    go_wp2_with (fail)
    go_ret
    exact ⟨rfl, HK.out⟩
  have hlx' : ¬ (100 : Int) < (l.length : Int) := by omega
  obtain ⟨hok, -, -⟩ := HSC.out.ok HBM.out
  have HOK := Lib.hid hok
  have HCAP := Lib.hid (show ∀ x ∈ l, x.data.length ≤ x.dc from fun x hx => (HSC.out.xs x hx).cap.1)
  have hll : l.length ≤ 100 := by omega
  clear hok HBM hl
  go_wp2_with (fail)
  refine (Nw.new w1 w1.heap.size (Nat.le_refl _)).mono ?_
  rintro r w2 ⟨rfl, hn, hk⟩
  have HM2 := Lib.hid (Me.start hn)
  have HA2 := Lib.hid (HA1.out.trans hk fun _ _ e => e)
  have HWP := Lib.hid HA1.out.size
  have HPS := Lib.hid hk.size
  clear hn hk HA1 hlx hlx'
  obtain ⟨p, hp⟩ : ∃ p, w1.heap.size = p := ⟨_, rfl⟩
  rw [hp] at HM2 HWP HPS ⊢
  clear hp
  go_wp2_with (fail)
  go_loopw [4, 5, 6] (fun b4 t5 i wr => ∃ (k : Nat) (bk : List Cc) (th : List Bool) (B : Option Addr) (bc : Nat) (T : Option Addr) (tc : Nat), i = .int .i64 k ∧ k ≤ l.length ∧ b4 = .slice B bk.length bc ∧ t5 = .slice T th.length tc ∧ bk.length ≤ k ∧ (Nt.play ⟨0, []⟩ (l.take k)).last = bk.length ∧ Rl 0 (Nt.play ⟨0, []⟩ (l.take k)).l bk th ∧ (∀ b ∈ bk, BkOk w b) ∧ Me p (Nt.play ⟨0, []⟩ (l.take k)) bk th B bc T tc (fun k => p ≤ k) wr ∧ Kept (fun k => p ≤ k) w2 wr) (fun _ _ i _ => l.length - (intOf i).toNat)
  case atStart => exact ⟨0, [], [], none, 0, none, 0, rfl, Nat.zero_le _, rfl, rfl, Nat.le_refl _, rfl, .nil, fun b hb => absurd hb (by simp), HM2.out, Kept.refl _ _⟩
  case round =>
    obtain ⟨k, bk, th, B, bc, T, tc, rfl, hk, rfl, rfl, hbk, hlast, hrl, hbo, hm, hkk⟩ := hrel
    have HA := Lib.hid (HA2.out.trans hkk fun j hj e => by have := HWP.out; omega)
    have HK := Lib.hid hkk
    have HPW := Lib.hid (Nat.le_trans HPS.out hkk.size)
    have HTL := Lib.hid hrl.len
    by_cases hlt : k < l.length
    case neg =>
      as_aux_lemma =>
      obtain rfl : k = l.length := by omega
      clear hrl hbo hm hkk HM2 hlast
      go_wp2_with (fail)
      refine (Known20_any wr).mono ?_
      rintro r w3 ⟨rfl, hk⟩
      have HK := Lib.hid (HA.out.trans hk fun _ _ e => e)
      clear hk
      go_wp2_with (fail)
      go_ret
      exact ⟨rfl, HK.out⟩
    obtain ⟨ad, rfl, x0, x1⟩ := HSC.out.steps.fresh HA.out k hlt
    have HST := Lib.hid (Nt.play_take ⟨0, []⟩ l k hlt)
    have hnok : (Nt.play ⟨0, []⟩ (l.take k)).Ok := by
      obtain ⟨H, h1, _⟩ := hm.net (fun j e => Nat.le_trans HPW.out e)
      exact h1.ok
    obtain ⟨y, hy⟩ : ∃ y, l[k] = y := ⟨_, rfl⟩
    have HOX := Lib.hid (show StnOk w y by rw [← hy]; exact HOK.out l[k] (List.getElem_mem hlt))
    have HYC := Lib.hid (show y.data.length ≤ y.dc by rw [← hy]; exact HCAP.out l[k] (List.getElem_mem hlt))
    rw [hy] at x0 x1 HST
    have HX0 := Lib.hid x0
    have HX1 := Lib.hid x1
    obtain ⟨s0, hs0⟩ : ∃ s0, Nt.play ⟨0, []⟩ (l.take k) = s0 := ⟨_, rfl⟩
    rw [hs0] at hm HST hlast hrl hnok
    have HSTEP := Lib.hid (hrl.step hnok hlast y)
    have HBO := Lib.hid hbo
    have HM3 := Lib.hid ((Me.ob ..).cut hm)
    have HN := Lib.hid (Box.new wr 32 zeroStn)
    have hls : s0.last ≤ 100 := by omega
    clear x0 x1 hs0 hy hrl hnok hbo hm hkk hlast HM2 HOK HCAP HSC
    go_wp2_with (first | (refine load_stn rfl _ rfl _ rfl y HX0.out HX1.out ?_) | (refine wpList_store_box rfl 32 _ _ rfl wr.heap.size y.cs rfl rfl 32 zeroStn HN.out (size_stn.trans rfl) rfl (Stn.cs_one y) ?_))
    intro w4 HB4 hk4
    have hk4' : Kept (fun _ => False) wr w4 := ((Kept.refl _ wr).alloc _).trans hk4 fun j hj e => by omega
    obtain ⟨X, hX⟩ : ∃ X, wr.heap.size = X := ⟨_, rfl⟩
    have HPX := Lib.hid HPW.out
    rw [hX] at HB4 HM3 HPX ⊢
    have HM4 := Lib.hid ((Me.ob ..).more ((Me.ob ..).fresh HM3.out hk4') (S := fun j => p ≤ j ∧ j ≠ X) fun j e => ⟨e.1, by omega⟩)
    have HA4 := Lib.hid (HA.out.trans hk4' fun _ _ e => e)
    have HK4 := Lib.hid (HK.out.trans hk4' fun _ _ e => e.elim)
    clear hk4 hk4' HM3 HN HX0 HX1 HA HK HPW hX
    obtain ⟨H, h1, h2, h3⟩ := HM4.out.net (fun j e => by have := HB4.out.lt; have := HPX.out; omega)
    have HH1 := Lib.hid h1
    have HH2 := Lib.hid h2
    have HH3 := Lib.hid h3
    clear h1 h2 h3
    go_wp2_with (refine load_stn_box rfl _ rfl X rfl y _ HB4.out ?_)
    refine (Nw.do_ HH1.out HH2.out (by omega) (HOX.out.fresh HA4.out)).mono ?_
    rintro r w5 ⟨rfl, hn, hkk⟩
    obtain ⟨hm, hkk⟩ := HH3.out _ _ hn hkk
    have HM5 := Lib.hid hm
    have HB5 := Lib.hid (HB4.out.kept hkk fun e => e.2 rfl)
    have HA5 := Lib.hid (HA4.out.trans hkk fun j hj e => by have := HWP.out; omega)
    have HK5 := Lib.hid (HK4.out.trans hkk fun _ _ e => e.1)
    clear hn hm hkk HH1 HH2 HH3 HM4 HB4 HA4 HK4
    obtain ⟨z, hz⟩ : ∃ z, s0.step y = z := ⟨_, rfl⟩
    rw [hz] at HST HSTEP HM5 ⊢
    clear hz
    obtain ⟨a, s1⟩ := z
    simp only at HST HM5 ⊢
    go_upto_if 40 with (fail)
    go_cut [4, 5] (fun b4 t5 wx => ∃ (bk' : List Cc) (th' : List Bool) (B' : Option Addr) (bc' : Nat) (T' : Option Addr) (tc' : Nat), b4 = .slice B' bk'.length bc' ∧ t5 = .slice T' th'.length tc' ∧ bk'.length ≤ k + 1 ∧ th'.length = bk'.length ∧ MeNone s1 y bk' th' ∧ (∀ b ∈ bk', BkOk w b) ∧ Me p s1 bk' th' B' bc' T' tc' (fun j => p ≤ j ∧ j ≠ X) wx ∧ Kept (fun j => p ≤ j ∧ j ≠ X) w5 wx)
    case first =>
      rcases HSTEP.out with ⟨ha, hm⟩ | ⟨ha, hm⟩
      · as_aux_lemma =>
        simp only at ha hm
        subst ha
        have HMN := Lib.hid hm
        clear hm HSTEP
        go_wp2_with (fail)
        go_meet
        case rel => exact ⟨bk, th, B, bc, T, tc, rfl, rfl, by omega, HTL.out, HMN.out, HBO.out, HM5.out, Kept.refl _ _⟩
      · simp only at ha hm
        obtain ⟨N, hN⟩ : ∃ N, bk.length + 1 = N := ⟨_, rfl⟩
        rw [hN] at ha
        subst ha
        have HHOW := Lib.hid hm.how
        have HLS := Lib.hid hm.last
        have HNN := Lib.hid hN
        have HKD := Lib.hid (show ¬ (y.kind = 2 ∨ y.kind = 3) from by rcases hm.how with ⟨h, _⟩ | ⟨h, _⟩ <;> omega)
        have hb0 : ((N : Int) != 0) = true := by
          have : (N : Int) ≠ 0 := by omega
          simpa using this
        have hnn : ((N : Int) != (N : Int)) = false := bne_one _
        have hw : IntKind.i64.wrap ((bk.length : Int) + 1) = (N : Int) := by rw [IntWalk.i64_in _ ⟨by omega, by omega⟩]; omega
        have x2 : w5.cell? ⟨X, 2, none⟩ = some (.int .i64 y.src) := (HB5.out.cell 2).trans rfl
        have x3 : w5.cell? ⟨X, 3, none⟩ = some (.int .i64 y.dst) := (HB5.out.cell 3).trans rfl
        have x4 : w5.cell? ⟨X, 4, none⟩ = some (.int .i64 y.at_) := (HB5.out.cell 4).trans rfl
        have x5 : w5.cell? ⟨X, 5, none⟩ = some (.slice y.dA y.data.length y.dc) := (HB5.out.cell 5).trans rfl
        have HN9 := Lib.hid (Box.new w5 44 zeroCpC)
        have hbk9 : bk.length ≤ 100 := by omega
        clear hm hN HSTEP
        have y2 : (w5.alloc (.cells zeroCpC 44)).cell? ⟨X, 2, none⟩ = some (.int .i64 y.src) := ((HB5.out.alloc _).cell 2).trans rfl
        go_wp2_with (refine wpList_store_box rfl 44 _ _ rfl w5.heap.size (cpC ⟨N, y.src, y.dst, y.at_, y.data, y.data, false⟩ y.dA y.dc) rfl rfl 44 zeroCpC HN9.out (size_cp.trans rfl) rfl (cpC_one _ _ _) ?_)
        intro w6 HB6 hk6
        have hk6' : Kept (fun _ => False) w5 w6 := ((Kept.refl _ w5).alloc _).trans hk6 fun j hj e => by omega
        obtain ⟨C, hC⟩ : ∃ C, w5.heap.size = C := ⟨_, rfl⟩
        have HXC := Lib.hid HB5.out.lt
        have HCS := Lib.hid (Nat.le_of_eq hC)
        have HM6 := Lib.hid ((Me.ob ..).fresh ((Me.ob ..).cut HM5.out) hk6')
        rw [hC] at HB6 HXC HM6 ⊢
        have HM6 := Lib.hid ((Me.ob ..).more HM6.out (S := fun j => (p ≤ j ∧ j ≠ X) ∧ j ≠ C) fun j e => ⟨e.1, by omega⟩)
        have HX6 := Lib.hid (HB5.out.kept hk6' id)
        have HK6 := Lib.hid hk6'
        have HA6 := Lib.hid (HA5.out.trans hk6' fun _ _ e => e)
        clear hk6 hk6' hC x2 x3 x4 x5 y2 HN9 HM5 HB5 HA5
        have hG6 : ∀ j, w6.heap.size ≤ j → (p ≤ j ∧ j ≠ X) ∧ j ≠ C := fun j e => by have := HB6.out.lt; have := HXC.out; have := HPX.out; omega
        have x0 : w6.cell? ⟨X, 0, none⟩ = some (.int .i64 y.kind) := (HX6.out.cell 0).trans rfl
        go_upto_if 53 with (fail)
        go_cut [9] (fun c9 wx => c9 = .pointer (some ⟨C, 0, none⟩) ∧ ∃ b : Cc, Box wx C 44 (cpC b.c b.A b.cap) ∧ BkOk w b ∧ Rl 0 s1.l (bk ++ [b]) (th ++ [true]) ∧ Kept (fun j => j = C) w6 wx)
        case first =>
          rcases HHOW.out with ⟨hk1, hr⟩ | ⟨hk4, i, h1, h2, hnum, hti, hr⟩
          · as_aux_lemma =>
            have e4 : (y.kind == 4) = false := by rw [hk1]; rfl
            have HR := Lib.hid hr
            clear hr hk1 HHOW
            go_wp2_with (fail)
            go_meet
            case rel => exact ⟨rfl, ⟨⟨N, y.src, y.dst, y.at_, y.data, y.data, false⟩, y.dA, y.dc⟩, HB6.out, BkOk.of HOX.out HYC.out N false, by have := HR.out y.dA y.dc; rwa [HNN.out] at this, Kept.refl _ _⟩
          · as_aux_lemma =>
            have e4 : (y.kind == 4) = true := by rw [hk4]; rfl
            have x1 : w6.cell? ⟨X, 1, none⟩ = some (.int .i64 ((i : Int) + 1)) := (HX6.out.cell 1).trans (by show some (Value.int .i64 y.num) = _; rw [hnum]; rfl)
            have HR := Lib.hid hr
            obtain ⟨hbrow, -⟩ := HM6.out.book hG6
            obtain ⟨htrow, -⟩ := HM6.out.there hG6
            obtain ⟨gB, e1, -, -, -⟩ := own_cells hbrow (by omega)
            obtain ⟨gT, e2, -, htc, -⟩ := own_cells htrow (by omega)
            subst e1 e2
            have t1 : w6.cell? ⟨gT, i, none⟩ = some (.bool true) := htc i _ (by simp [h2, hti])
            have HBR := Lib.hid hbrow
            obtain ⟨b0, hb0⟩ : ∃ b0, bk[i] = b0 := ⟨_, rfl⟩
            have HBB := Lib.hid (HBO.out b0 (by rw [← hb0]; exact List.getElem_mem h1))
            have HCS := Lib.hid (show bk[i].cs = cpC b0.c b0.A b0.cap by rw [hb0]; rfl)
            rw [hb0] at HR
            have d1 : decide ((i : Int) + 1 < 1) = false := decide_eq_false (by omega)
            have d2 : decide ((bk.length : Int) < (i : Int) + 1) = false := decide_eq_false (by omega)
            have hw1 : IntKind.i64.wrap ((i : Int) + 1 - 1) = (i : Int) := by rw [IntWalk.i64_in _ ⟨by omega, by omega⟩]; omega
            have hw2 : IntKind.i64.wrap (i : Int) = (i : Int) := IntWalk.i64_in _ ⟨by omega, by omega⟩
            have hi0 : (0 : Int) ≤ (i : Int) := by omega
            have hib : (i : Int) < (bk.length : Int) := by omega
            have hit : (i : Int) < (th.length : Int) := by omega
            have hi1 : ¬ (i : Int) + 1 < 1 := by omega
            have hi2 : ¬ (bk.length : Int) < (i : Int) + 1 := by omega
            clear hr hk4 hnum hti hbrow htrow htc HHOW hb0
            go_wp2_with (first | (refine load_cc rfl _ rfl gB i rfl bk HBR.out h1 (cpC b0.c b0.A b0.cap) HCS.out ?_) | (refine wpList_store_box rfl 44 _ _ rfl C (cpC b0.c b0.A b0.cap) rfl rfl 44 _ HB6.out (size_cp.trans rfl) rfl (cpC_one _ _ _) ?_))
            intro w7 HB7 hk7
            have HK7 := Lib.hid hk7
            have z0 : w7.cell? ⟨C, 0, none⟩ = some (.int .i64 b0.c.num) := (HB7.out.cell 0).trans rfl
            have f0 := HB7.out.frozen 0
            clear hk7 x0 x1 t1
            go_wp2_with (fail)
            go_meet
            case rel => exact ⟨rfl, ⟨{ b0.c with num := N }, b0.A, b0.cap⟩, HB7.out.set 0 (.int .i64 (N : Int)), ⟨HBB.out.b, HBB.out.none, HBB.out.cap, HBB.out.len⟩, by have := HR.out; rwa [HNN.out] at this, HK7.out.at (g := C) 0 _ (.inl rfl)⟩
        case rest =>
          obtain ⟨rfl, b, hbx, hbok, hr, hkc⟩ := hcut
          obtain ⟨w7, rfl⟩ : ∃ w7 : World, w7 = wc := ⟨_, rfl⟩
          have HB7 := Lib.hid hbx
          have HBK := Lib.hid hbok
          have HR := Lib.hid hr
          have HM7 := Lib.hid ((Me.ob ..).kept HM6.out hkc fun j e e' => e.2 e')
          have HK7 := Lib.hid (HK6.out.trans hkc fun j hj e => by have := HCS.out; omega)
          have hG7 : ∀ j, w7.heap.size ≤ j → (p ≤ j ∧ j ≠ X) ∧ j ≠ C := fun j e => hG6 j (Nat.le_trans hkc.size e)
          obtain ⟨hrow, hgo⟩ := HM7.out.book hG7
          have HROW := Lib.hid hrow
          have HGO := Lib.hid hgo
          have HG7 := Lib.hid hG7
          clear hbx hbok hr hkc hrow hgo hG7 hG6 HM6 HK6 HB6 HHOW HM7
          obtain ⟨⟨bn, bs, bd, bt, bcl, bdt, bb⟩, bA, bcp⟩ := b
          simp only at HB7
          go_wp2_with (first | (refine load_cp_box rfl _ rfl C rfl #[.int .i64 bn, .int .i64 bs, .int .i64 bd, .slice bA bdt.length bcp, .int .i64 bt, .bool bb] rfl _ HB7.out ?_) | (at_builtin; refine Hid.out ?_))
          refine Lib.hid ?_
          refine wpList_append_row eltSent rfl _ _ rfl 0 _ bk.length (ccs bk) rfl HROW.out 1 1 rfl rfl rfl (by omega) (Nat.zero_le _) ?_
          intro B2 bc2 w8 HO8 HK8 HG8 _
          have hlb : (bk ++ [(⟨⟨bn, bs, bd, bt, bcl, bdt, bb⟩, bA, bcp⟩ : Cc)]).length = bk.length + 1 := by rw [List.length_append]; rfl
          obtain ⟨hm8, hk8⟩ := HGO.out (bk ++ [⟨⟨bn, bs, bd, bt, bcl, bdt, bb⟩, bA, bcp⟩]) B2 bc2 w8 (by rw [hlb, ccs_snoc]; exact HO8.out) HK8.out (by rw [hlb]; exact HG8.out)
          have HK9 := Lib.hid (show Kept (fun j => p ≤ j ∧ j ≠ X) w5 w8 from (HK7.out.more fun _ _ e => e.elim).trans hk8 fun _ _ e => e.1)
          have hG8 : ∀ j, w8.heap.size ≤ j → (p ≤ j ∧ j ≠ X) ∧ j ≠ C := fun j e => HG7.out j (Nat.le_trans hk8.size e)
          obtain ⟨hrow, hgo⟩ := hm8.there hG8
          have HTROW := Lib.hid hrow
          have HTGO := Lib.hid hgo
          have HLB := Lib.hid hlb
          clear hlb hm8 hk8 hG8 hrow hgo HO8 HK8 HG8 HGO HROW HK7 HB7
          have htl : th.length ≤ 100 := by have := HTL.out; omega
          go_wp2_with (at_builtin; refine wpList_append_row eltBool rfl _ _ rfl 0 _ th.length (th.map Value.bool) rfl HTROW.out 1 1 rfl rfl rfl (by omega) (Nat.zero_le _) ?_)
          intro T2 tc2 w9 HO9 HKT HG9 _
          have hlt2 : (th ++ [true]).length = th.length + 1 := by rw [List.length_append]; rfl
          obtain ⟨hm9, hk9⟩ := HTGO.out (th ++ [true]) T2 tc2 w9 (by rw [hlt2, List.map_append]; exact HO9.out) HKT.out (by rw [hlt2]; exact HG9.out)
          have HM9 := Lib.hid ((Me.ob ..).more hm9 (S := fun j => p ≤ j ∧ j ≠ X) fun j e => e.1)
          have HK10 := Lib.hid (HK9.out.trans hk9 fun _ _ e => e.1)
          have HLT := Lib.hid hlt2
          clear hlt2 hm9 hk9 HO9 HKT HG9 HTGO HTROW HK9
          go_wp2_with (fail)
          go_meet
          case rel =>
            refine ⟨bk ++ [⟨⟨bn, bs, bd, bt, bcl, bdt, bb⟩, bA, bcp⟩], th ++ [true], B2, bc2, T2, tc2, by rw [HLB.out], by rw [HLT.out], by rw [HLB.out]; omega, by rw [HLT.out, HLB.out, HTL.out], ⟨by rw [HLB.out]; exact HLS.out, fun h => absurd h HKD.out, fun h => absurd h HKD.out, fun _ => HR.out⟩, fun x hx => ?_, HM9.out, HK10.out⟩
            rcases List.mem_append.1 hx with h | h
            · exact HBO.out x h
            · rw [List.mem_singleton] at h; subst h; exact HBK.out
    case rest =>
      obtain ⟨bk', th', B', bc', T', tc', rfl, rfl, hbk', hlen', hmn, hbo', hm', hk6⟩ := hcut
      clear HSTEP HBO HTL hbk hls
      obtain ⟨w6, rfl⟩ : ∃ w6 : World, w6 = wc := ⟨_, rfl⟩
      have HB6 := Lib.hid (HB5.out.kept hk6 fun e => e.2 rfl)
      have HA6 := Lib.hid (HA5.out.trans hk6 fun j hj e => by have := HWP.out; omega)
      have HK6 := Lib.hid (HK5.out.trans hk6 fun _ _ e => e.1)
      have HM6 := Lib.hid hm'
      have HMN := Lib.hid hmn
      have HBO := Lib.hid hbo'
      have HTL := Lib.hid hlen'
      clear hmn hbo' hm' hk6 hlen' HM5 HB5 HA5 HK5
      have hG6 : ∀ j, w6.heap.size ≤ j → p ≤ j ∧ j ≠ X := fun j e => by have := HB6.out.lt; have := HPX.out; omega
      obtain ⟨bb, hbb⟩ : ∃ bb, (decide (y.kind = 2 ∨ y.kind = 3) && decide (1 ≤ y.num ∧ y.num ≤ (bk'.length : Int))) = bb := ⟨_, rfl⟩
      have HBB := Lib.hid hbb
      clear hbb
      go_upto_region 24 with (fail)
      go_cut [114] (fun v wx => v = .bool bb ∧ wx = w6)
      case first =>
        have hcase : y.kind = 2 ∨ y.kind = 3 ∨ (y.kind ≠ 2 ∧ y.kind ≠ 3) := by omega
        rcases hcase with hkd | hkd | ⟨hkd, hkd'⟩
        · as_aux_lemma =>
          have x0 : w6.cell? ⟨X, 0, none⟩ = some (.int .i64 2) := (HB6.out.cell 0).trans (by rw [← hkd]; rfl)
          have x1 : w6.cell? ⟨X, 1, none⟩ = some (.int .i64 y.num) := (HB6.out.cell 1).trans rfl
          have hk1 : decide (y.kind = 2 ∨ y.kind = 3) = true := decide_eq_true (by omega)
          clear hkd
          by_cases hn1 : y.num < 1
          · have d1 : decide (1 ≤ y.num) = false := decide_eq_false (by omega)
            have hv : bb = false := by rw [← HBB.out, decide_eq_false (show ¬ (1 ≤ y.num ∧ y.num ≤ (bk'.length : Int)) by omega), Bool.and_false]
            subst hv
            clear hn1 hk1
            go_wp2_with (fail)
            go_meet
            case rel => exact ⟨rfl, rfl⟩
          have d1 : decide (1 ≤ y.num) = true := decide_eq_true (by omega)
          by_cases hn2 : (bk'.length : Int) < y.num
          · have d2 : decide (y.num ≤ (bk'.length : Int)) = false := decide_eq_false (by omega)
            have hv : bb = false := by rw [← HBB.out, decide_eq_false (show ¬ (1 ≤ y.num ∧ y.num ≤ (bk'.length : Int)) by omega), Bool.and_false]
            subst hv
            clear hn1 hn2 hk1
            go_wp2_with (fail)
            go_meet
            case rel => exact ⟨rfl, rfl⟩
          · have d2 : decide (y.num ≤ (bk'.length : Int)) = true := decide_eq_true (by omega)
            have hv : bb = true := by rw [← HBB.out, hk1, decide_eq_true (show 1 ≤ y.num ∧ y.num ≤ (bk'.length : Int) by omega)]; rfl
            subst hv
            clear hn1 hn2 hk1
            go_wp2_with (fail)
            go_meet
            case rel => exact ⟨rfl, rfl⟩
        · as_aux_lemma =>
          have x0 : w6.cell? ⟨X, 0, none⟩ = some (.int .i64 3) := (HB6.out.cell 0).trans (by rw [← hkd]; rfl)
          have x1 : w6.cell? ⟨X, 1, none⟩ = some (.int .i64 y.num) := (HB6.out.cell 1).trans rfl
          have hk1 : decide (y.kind = 2 ∨ y.kind = 3) = true := decide_eq_true (by omega)
          clear hkd
          by_cases hn1 : y.num < 1
          · have d1 : decide (1 ≤ y.num) = false := decide_eq_false (by omega)
            have hv : bb = false := by rw [← HBB.out, decide_eq_false (show ¬ (1 ≤ y.num ∧ y.num ≤ (bk'.length : Int)) by omega), Bool.and_false]
            subst hv
            clear hn1 hk1
            go_wp2_with (fail)
            go_meet
            case rel => exact ⟨rfl, rfl⟩
          have d1 : decide (1 ≤ y.num) = true := decide_eq_true (by omega)
          by_cases hn2 : (bk'.length : Int) < y.num
          · have d2 : decide (y.num ≤ (bk'.length : Int)) = false := decide_eq_false (by omega)
            have hv : bb = false := by rw [← HBB.out, decide_eq_false (show ¬ (1 ≤ y.num ∧ y.num ≤ (bk'.length : Int)) by omega), Bool.and_false]
            subst hv
            clear hn1 hn2 hk1
            go_wp2_with (fail)
            go_meet
            case rel => exact ⟨rfl, rfl⟩
          · have d2 : decide (y.num ≤ (bk'.length : Int)) = true := decide_eq_true (by omega)
            have hv : bb = true := by rw [← HBB.out, hk1, decide_eq_true (show 1 ≤ y.num ∧ y.num ≤ (bk'.length : Int) by omega)]; rfl
            subst hv
            clear hn1 hn2 hk1
            go_wp2_with (fail)
            go_meet
            case rel => exact ⟨rfl, rfl⟩
        · as_aux_lemma =>
          have x0 : w6.cell? ⟨X, 0, none⟩ = some (.int .i64 y.kind) := (HB6.out.cell 0).trans rfl
          have e2 : (y.kind == 2) = false := beq_eq_false_iff_ne.mpr hkd
          have e3 : (y.kind == 3) = false := beq_eq_false_iff_ne.mpr hkd'
          have hv : bb = false := by rw [← HBB.out, decide_eq_false (show ¬ (y.kind = 2 ∨ y.kind = 3) by omega), Bool.false_and]
          subst hv
          clear hkd hkd'
          go_wp2_with (fail)
          go_meet
          case rel => exact ⟨rfl, rfl⟩
      case rest =>
      obtain ⟨rfl, hww⟩ := hcut
      rw [hww]
      clear hww
      go_upto_if 114 with (fail)
      go_cut [5] (fun t5 wx => ∃ th2 : List Bool, t5 = .slice T' th2.length tc' ∧ th2.length = bk'.length ∧ Rl 0 s1.l bk' th2 ∧ Me p s1 bk' th2 B' bc' T' tc' (fun j => p ≤ j ∧ j ≠ X) wx ∧ Kept (fun j => p ≤ j ∧ j ≠ X) w6 wx)
      case first =>
        cases bb with
        | false =>
          as_aux_lemma =>
          have HR := Lib.hid (show Rl 0 s1.l bk' th' from by
            have h := HBB.out
            by_cases hk : y.kind = 2 ∨ y.kind = 3
            · rw [decide_eq_true hk, Bool.true_and, decide_eq_false_iff_not] at h
              exact HMN.out.out hk h
            · exact HMN.out.other hk)
          clear HBB
          go_wp2_with (fail)
          go_meet
          case rel => exact ⟨th', rfl, HTL.out, HR.out, HM6.out, Kept.refl _ _⟩
        | true =>
          as_aux_lemma =>
          have hbb := HBB.out
          simp only [Bool.and_eq_true, decide_eq_true_eq] at hbb
          obtain ⟨hkd, hn1, hn2⟩ := hbb
          obtain ⟨i, hi⟩ : ∃ i : Nat, y.num = (i : Int) + 1 := ⟨(y.num - 1).toNat, by omega⟩
          have x1 : w6.cell? ⟨X, 1, none⟩ = some (.int .i64 ((i : Int) + 1)) := (HB6.out.cell 1).trans (by show some (Value.int .i64 y.num) = _; rw [hi])
          have hil : i < th'.length := by have := HTL.out; omega
          have hw1 : IntKind.i64.wrap ((i : Int) + 1 - 1) = (i : Int) := by rw [IntWalk.i64_in _ ⟨by omega, by omega⟩]; omega
          have hw2 : IntKind.i64.wrap (i : Int) = (i : Int) := IntWalk.i64_in _ ⟨by omega, by omega⟩
          have hi0 : (0 : Int) ≤ (i : Int) := by omega
          have hit : (i : Int) < (th'.length : Int) := by omega
          have HR := Lib.hid (HMN.out.off hkd i hil (by rw [hi]; rfl))
          obtain ⟨hrow, hgo⟩ := HM6.out.there hG6
          obtain ⟨gT, e2, e3, htc, hfz⟩ := own_cells hrow (by omega)
          subst e2
          have t1 : w6.cell? ⟨gT, i, none⟩ = some (.bool th'[i]) := htc i _ (by simp [hil])
          have f1 : w6.frozen? ⟨gT, i, none⟩ = false := hfz i
          obtain ⟨hm7, hk7⟩ := hgo (th'.set i false) (some ⟨gT, 0, none⟩) tc' (w6.setCell ⟨gT, i, none⟩ (.bool false)) (by rw [List.length_set, map_set_bool]; exact own_put hrow i _) (Kept.at (Kept.refl _ _) i _ (.inl e3)) (by rw [List.length_set]; exact Goes.refl _ _)
          have HM7 := Lib.hid hm7
          have HK7 := Lib.hid hk7
          obtain ⟨ov, hov⟩ : ∃ ov, th'[i] = ov := ⟨_, rfl⟩
          rw [hov] at t1
          clear hkd hn1 hn2 hi hrow hgo htc hfz hm7 hk7 hov HBB
          go_wp2_with (fail)
          go_meet
          case rel => exact ⟨th'.set i false, by rw [List.length_set], by rw [List.length_set]; exact HTL.out, HR.out, HM7.out, HK7.out⟩
      case rest =>
        clear HBB
        obtain ⟨th2, rfl, hl2, hr2, hm2, hk7⟩ := hcut
        obtain ⟨w7, rfl⟩ : ∃ w7 : World, w7 = wc := ⟨_, rfl⟩
        have hls1 : s1.last = bk'.length := HMN.out.last
        have HA7 := Lib.hid (HA6.out.trans hk7 fun j hj e => by have := HWP.out; omega)
        have HK7 := Lib.hid (HK6.out.trans hk7 fun _ _ e => e.1)
        have HR := Lib.hid hr2
        have HM7 := Lib.hid hm2
        have HTL2 := Lib.hid hl2
        obtain ⟨H, h1, -, -⟩ := hm2.net (fun j e => hG6 j (Nat.le_trans hk7.size e))
        have HNW := Lib.hid h1
        have HOK1 := Lib.hid h1.ok
        have hcnt := h1.ok.count
        clear h1 hr2 hm2 hk7 hl2 HMN HM6 HB6 HA6 HK6 HTL hG6
        go_wp2_with (fail)
        refine (Nw.copies_ HNW.out (by omega)).mono ?_
        rintro r w8 ⟨L, lc, lw, F, rfl, hcop, hlw, hk8, -, -⟩
        have hlwl : lw.length = s1.l.length := by rw [← hlw, List.length_map]
        have HLW := Lib.hid hlw
        have HC8 := Lib.hid hcop
        have HM8 := Lib.hid ((Me.ob ..).fresh HM7.out hk8)
        have HA8 := Lib.hid (HA7.out.trans hk8 fun _ _ e => e)
        have HK8 := Lib.hid (HK7.out.trans hk8 fun _ _ e => e.elim)
        obtain ⟨hbrow, -⟩ := ((Me.ob ..).more HM8.out (S := fun _ => True) fun _ _ => trivial).book (fun _ _ => trivial)
        obtain ⟨htrow, -⟩ := ((Me.ob ..).more HM8.out (S := fun _ => True) fun _ _ => trivial).there (fun _ _ => trivial)
        have HBR := Lib.hid hbrow
        have HTR := Lib.hid htrow
        have htl2 : th2.length = bk'.length := HTL2.out
        clear hlw hcop hk8 hbrow htrow HM7 HA7 HK7 HNW
        go_wp2_with (fail)
        go_loopw [11, 12] (fun kk jj wr => ∃ (j m : Nat), kk = .int .i64 m ∧ jj = .int .i64 j ∧ j ≤ bk'.length ∧ m ≤ lw.length ∧ Rl j (s1.l.drop m) (bk'.drop j) (th2.drop j) ∧ Kept (fun _ => False) w8 wr) (fun _ jj _ => bk'.length - (intOf jj).toNat)
        case atStart => exact ⟨0, 0, rfl, rfl, Nat.zero_le _, Nat.zero_le _, HR.out, Kept.refl _ _⟩
        case round =>
          obtain ⟨j, m, rfl, rfl, hj, hml, hrj, hkj⟩ := hrel
          have HKJ := Lib.hid hkj
          obtain ⟨w9, rfl⟩ : ∃ w9 : World, w9 = wr := ⟨_, rfl⟩
          by_cases hjb : j < bk'.length
          · have hjt : j < th2.length := by omega
            obtain ⟨gB, e1, -, -, -⟩ := own_cells HBR.out (by omega)
            obtain ⟨gT, e2, -, htc, -⟩ := own_cells (hkj.own HTR.out fun _ _ => id) (by omega)
            subst e1 e2
            have t1 : w9.cell? ⟨gT, j, none⟩ = some (.bool th2[j]) := htc j _ (by simp [hjt])
            have hj0 : (0 : Int) ≤ (j : Int) := by omega
            have hji : (j : Int) < (bk'.length : Int) := by omega
            have hjti : (j : Int) < (th2.length : Int) := by omega
            clear htc
            cases hv : th2[j] with
            | false =>
              as_aux_lemma =>
              rw [hv] at t1
              have HRN := Lib.hid (hrj.at_false hjb hjt hv)
              clear hrj hkj hv HR
              go_wp2_with (fail)
              go_roundw
              case rel => exact ⟨j + 1, m, rfl, by go_num, by omega, hml, HRN.out, HKJ.out⟩
              case measure => simp [intOf]; omega
            | true =>
              as_aux_lemma =>
              rw [hv] at t1
              obtain ⟨hms, hok, hrn⟩ := hrj.at_true hjb hjt hv
              have HRN := Lib.hid hrn
              have hmw : m < lw.length := by omega
              have hmi : (m : Int) < (lw.length : Int) := by omega
              have hm0 : (0 : Int) ≤ (m : Int) := by omega
              have hnm : ¬ (lw.length : Int) ≤ (m : Int) := by omega
              have hlwm := at_map HLW.out hmw hms
              obtain ⟨gL, e1, -, -, -⟩ := own_cells (hkj.own HC8.out.row fun _ _ => id) (by omega)
              subst e1
              have HDT := Lib.hid ((HC8.out.fresh hkj).d lw[m] (List.getElem_mem hmw))
              have HBB := Lib.hid (HBO.out bk'[j] (List.getElem_mem hjb))
              have HLR := Lib.hid (hkj.own HC8.out.row fun _ _ => id)
              have hcl := (HOK1.out.len _ (List.getElem_mem hms)).2
              rw [← hlwm] at hok hcl
              obtain ⟨x, hx⟩ : ∃ x, lw[m] = x := ⟨_, rfl⟩
              obtain ⟨b, hb⟩ : ∃ b, bk'[j] = b := ⟨_, rfl⟩
              rw [hx] at HDT hok hcl
              rw [hb] at HBB hok
              obtain ⟨⟨cn, cs, cd, ct, ccl, cdt, cb⟩, cA, ccp⟩ := x
              obtain ⟨⟨bn, bs, bd, bt, bcl, bdt, bb⟩, bA, bcp⟩ := b
              obtain ⟨q1, q2, q3, q4, q5, -, q6, q7⟩ := hok
              simp only at q1 q2 q3 q4 q5 q6 q7 HDT HBB hcl
              subst q1 q3 q4 q5
              have HCX := Lib.hid (show lw[m].cs = #[.int .i64 ((j + 1 : Nat) : Int), .int .i64 cs, .int .i64 cd, .slice cA cdt.length ccp, .int .i64 ct, .bool cb] by rw [hx]; rfl)
              have HCB := Lib.hid (show bk'[j].cs = #[.int .i64 (bn : Int), .int .i64 cs, .int .i64 cd, .slice bA bdt.length bcp, .int .i64 ct, .bool bb] by rw [hb]; rfl)
              have HQ6 := Lib.hid q6
              have HQ7 := Lib.hid q7
              have HN1 := Lib.hid (Box.new w9 44 zeroCpC)
              obtain ⟨J, hJ⟩ : ∃ J, j + 1 = J := ⟨_, rfl⟩
              rw [hJ] at HCX
              have HJ := Lib.hid hJ
              have hw : IntKind.i64.wrap ((j : Int) + 1) = (J : Int) := by rw [IntWalk.i64_in _ ⟨by omega, by omega⟩]; omega
              have n0 : ((J : Int) != (J : Int)) = false := bne_one _
              have n1 : (cs != cs) = false := bne_one _
              have n2 : (cd != cd) = false := bne_one _
              have n3 : (ct != ct) = false := bne_one _
              clear hrj hkj hv HR hrn hlwm hx hb q2 q6 q7 hJ
              go_wp2_with (first | (refine load_cc rfl _ rfl gL m rfl lw HLR.out hmw _ HCX.out ?_) | (refine wpList_store_box rfl 44 _ _ rfl w9.heap.size #[.int .i64 (J : Int), .int .i64 cs, .int .i64 cd, .slice cA cdt.length ccp, .int .i64 ct, .bool cb] rfl rfl 44 zeroCpC HN1.out (size_cp.trans rfl) rfl (by kernel_rfl) ?_))
              intro v1 HV1 hk1
              have hk1' : Kept (fun _ => False) w9 v1 := ((Kept.refl _ w9).alloc _).trans hk1 fun j hj e => by omega
              have HKV := Lib.hid (HKJ.out.trans hk1' fun _ _ e => e)
              have HBR1 := Lib.hid (HKV.out.own HBR.out fun _ _ => id)
              have HN2 := Lib.hid (Box.new v1 44 zeroCpC)
              obtain ⟨C1, hC1⟩ : ∃ C1, w9.heap.size = C1 := ⟨_, rfl⟩
              rw [hC1] at HV1 ⊢
              clear hk1 hC1 HN1 t1
              go_wp2_with (first | (refine load_cc rfl _ rfl gB j rfl bk' HBR1.out hjb _ HCB.out ?_) | (refine wpList_store_box rfl 44 _ _ rfl v1.heap.size #[.int .i64 (bn : Int), .int .i64 cs, .int .i64 cd, .slice bA bdt.length bcp, .int .i64 ct, .bool bb] rfl rfl 44 zeroCpC HN2.out (size_cp.trans rfl) rfl (by kernel_rfl) ?_))
              intro v2 HV2 hk2
              have hk2' : Kept (fun _ => False) v1 v2 := ((Kept.refl _ v1).alloc _).trans hk2 fun j hj e => by omega
              have HV12 := Lib.hid (HV1.out.kept hk2' id)
              have HKV2 := Lib.hid (HKV.out.trans hk2' fun _ _ e => e)
              have HDT2 := Lib.hid ((hk1'.trans hk2' fun _ _ e => e).own HDT.out fun _ _ => id)
              have HAB := Lib.hid (HA8.out.trans HKV2.out fun _ _ e => e)
              obtain ⟨C2, hC2⟩ : ∃ C2, v1.heap.size = C2 := ⟨_, rfl⟩
              rw [hC2] at HV2 ⊢
              clear hk1' hk2 hk2' hC2 HN2 HBR1 HKV HV1 HDT HLR
              have c0 : v2.cell? ⟨C1, 0, none⟩ = some (.int .i64 (J : Int)) := (HV12.out.cell 0).trans rfl
              have c1 : v2.cell? ⟨C1, 1, none⟩ = some (.int .i64 cs) := (HV12.out.cell 1).trans rfl
              have c2 : v2.cell? ⟨C1, 2, none⟩ = some (.int .i64 cd) := (HV12.out.cell 2).trans rfl
              have c3 : v2.cell? ⟨C1, 3, none⟩ = some (.slice cA cdt.length ccp) := (HV12.out.cell 3).trans rfl
              have c4 : v2.cell? ⟨C1, 4, none⟩ = some (.int .i64 ct) := (HV12.out.cell 4).trans rfl
              have c5 : v2.cell? ⟨C1, 5, none⟩ = some (.bool cb) := (HV12.out.cell 5).trans rfl
              have b1 : v2.cell? ⟨C2, 1, none⟩ = some (.int .i64 cs) := (HV2.out.cell 1).trans rfl
              have b2 : v2.cell? ⟨C2, 2, none⟩ = some (.int .i64 cd) := (HV2.out.cell 2).trans rfl
              have b3 : v2.cell? ⟨C2, 3, none⟩ = some (.slice bA bdt.length bcp) := (HV2.out.cell 3).trans rfl
              have b4 : v2.cell? ⟨C2, 4, none⟩ = some (.int .i64 ct) := (HV2.out.cell 4).trans rfl
              have HBA := Lib.hid (HBB.out.b.fresh HAB.out)
              have HCA := Lib.hid (BytesAt.of_own HDT2.out)
              cases cb with
              | false =>
                obtain rfl := HQ6.out rfl
                clear HQ6 HQ7
                go_wp2_with (fail)
                refine (Bytes20_any cA bA cdt cdt ccp bcp v2 HCA.out HBA.out (by omega)).mono ?_
                rw [decide_eq_true rfl]
                rintro r v3 ⟨rfl, hk⟩
                have HK3 := Lib.hid (HKV2.out.trans hk fun _ _ e => e)
                have c5' : v3.cell? ⟨C1, 5, none⟩ = some (.bool false) := ((HV12.out.kept hk id).cell 5).trans rfl
                clear hk c0 c1 c2 c3 c4 c5 b1 b2 b3 b4
                go_wp2_with (fail)
                have hJ := HJ.out
                go_roundw
                case rel => exact ⟨j + 1, m + 1, by go_num, by go_num, by omega, by omega, HRN.out, HK3.out⟩
                case measure => simp [intOf]; omega
              | true =>
                have hap := HQ7.out rfl
                have hne : bA ≠ none := fun e => by
                  have e2 := HBB.out.none e
                  simp only at e2
                  subst e2
                  rcases hap with ⟨h, _⟩ | ⟨h, h', _⟩
                  · simp at h
                  · exact h' (List.length_eq_zero_iff.1 h)
                have HAP := Lib.hid hap
                have HNE := Lib.hid hne
                clear HQ6 HQ7 hap hne
                go_wp2_with (fail)
                refine (Apart_true cA bA cdt bdt ccp bcp v2 HCA.out HBA.out HNE.out HBB.out.cap (by have := HBB.out.len; simp only at this; omega) HAP.out).mono ?_
                rintro r v3 ⟨rfl, hk⟩
                have HK3 := Lib.hid (HKV2.out.trans hk fun _ _ e => e)
                clear hk c0 c1 c2 c3 c4 c5 b1 b2 b3 b4
                go_wp2_with (fail)
                have hJ := HJ.out
                go_roundw
                case rel => exact ⟨j + 1, m + 1, by go_num, by go_num, by omega, by omega, HRN.out, HK3.out⟩
                case measure => simp [intOf]; omega
          · obtain rfl : j = bk'.length := by omega
            obtain rfl : m = lw.length := by have := hrj.at_end (Nat.le_refl _); omega
            have nn : ((lw.length : Int) != (lw.length : Int)) = false := bne_one _
            have HME := Lib.hid ((Me.ob ..).more ((Me.ob ..).fresh HM8.out hkj) (S := fun j => p ≤ j) fun j e => e.1)
            have HKE := Lib.hid (HK8.out.trans hkj fun _ _ e => e.elim)
            clear hrj hkj HM8 HK8 HC8 HBR HTR
            go_wp2_with (fail)
            go_roundw
            case rel => exact ⟨k + 1, bk', th2, B', bc', T', tc', by go_num, by omega, rfl, by rw [htl2], by omega, by rw [HST.out]; exact hls1, by rw [HST.out]; exact HR.out, HBO.out, by rw [HST.out]; exact HME.out, HKE.out⟩
            case measure => simp [intOf]; omega
end Go.Proofs.Ytopcogogpbcbhaa
