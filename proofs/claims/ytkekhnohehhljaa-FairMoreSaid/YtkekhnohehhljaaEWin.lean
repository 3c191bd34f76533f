/- The walk of windows$1: what it gives to whoever ranges over it. Conditions: its variables lie where they should; at most a hundred sites, a million events. -/
import Derived.Test.YtkekhnohehhljaaEWiP
import Derived.Test.YtkekhnohehhljaaELod
import Derived.Shelf.SlSortCmp.QuietGrown
import Derived.WalkMore
import Derived.Deep.OwnRows
import Derived.Stop.RegionWithIn
namespace Go.Proofs.Ytkekhnohehhljaa
open Go Go.Shelf Go.RowKit Go.Lib Go.Sort
attribute [local go_sem] Oper.semAt_some

theorem info_u64 : (Try.prog.info? 58).map (fun i => (i.zero, i.size, i.bytes)) = some (some (.int .u64 0), 1, 8) := by kernel_rfl
theorem made_words (L : Nat) : madeCells #[.int .u64 0] L = wordsV L (fun _ => 0) := by
  apply Array.ext_getElem?
  intro i
  by_cases hi : i < L
  · rw [wordsV_get _ hi]; simp [madeCells, hi, Nat.mod_one]
  · rw [Array.getElem?_eq_none (by rw [size_madeCells]; omega), Array.getElem?_eq_none (by rw [wordsV_size]; omega)]
set_option maxRecDepth 100000 in
set_option maxHeartbeats 4000000 in
theorem win_gives (h : Wh) (ho : h.Ok) (s0 : Int) (h0 : 0 ≤ s0) (n : Nat) (hn : 1 ≤ n) (w : World) (hat : h.At w s0) :
    Gives Fence.wide n Try.prog 27 #[.pointer (some ⟨h.Bf, 0, none⟩), .pointer (some ⟨h.Bt, 0, none⟩), .pointer (some ⟨h.Bs, 0, none⟩), .pointer (some ⟨h.Be, 0, none⟩)]
      (fun x : Int × Int => #[.agg #[.int .i64 x.1, .int .i64 x.2]]) (fun A B => Kept (fun k => k = h.Bf) A B) (KpW h.m h.C) h.es.length (fun xs => xs = scan h.ss h.lim [] s0 h.es) w := by
  intro l J W hKp hsz hJ hY hj0
  have HAT := Lib.hid (hat.kp ho hKp)
  have HJ := Lib.hid hJ
  have HY := Lib.hid hY
  have HJ0 := Lib.hid hj0
  have HO := Lib.hid ho
  clear hat hKp hsz hJ hY hj0 ho
  refine callsIn_wide.2 ?_
  go_enter Try.func27, Try.ntmps27
  refine wp_scope_straight ?_
  go_wp2_with (fail)
  apply wp_label
  go_wp2_with (fail)
  go_loopw [6] (fun i wr => ∃ (k : Nat) (pre : List (Int × Int)) (s : Int), i = .int .i64 k ∧ k ≤ h.es.length ∧ 0 ≤ s ∧ h.At wr s ∧ J pre wr ∧ scan h.ss h.lim [] s0 h.es = pre ++ scan h.ss h.lim [] s (h.es.drop k)) (fun _ wr => (h.lim - intOf ((wr.cell? ⟨h.Bf, 0, none⟩).getD undef)).toNat)
  case atStart => exact ⟨0, [], s0, rfl, Nat.zero_le _, h0, HAT.out, HJ0.out, rfl⟩
  case round =>
    obtain ⟨k, pre, s, rfl, hk, hs0, hat, hj, htot⟩ := hrel
    have x1 := hat.f.cell 0
    have x2 := hat.t.cell 0
    have x3 := hat.s_.cell 0
    have HA1 := Lib.hid hat
    have HJ1 := Lib.hid hj
    have HT1 := Lib.hid htot
    clear hat hj htot HAT HJ0
    by_cases hs : s < h.lim
    · obtain ⟨N, hN⟩ : ∃ N, h.ss.length = N := ⟨_, rfl⟩
      have h2 : 2 ≤ N := hN ▸ HO.out.two
      have h100 : N ≤ 100 := hN ▸ HO.out.most
      have hnn : N * N ≤ 100 * 100 := Nat.mul_le_mul h100 h100
      obtain ⟨NN, hNN⟩ : ∃ NN, N * N = NN := ⟨_, rfl⟩
      have hm1 : (N : Int) * (N : Int) = (NN : Int) := by rw [← hNN]; exact (Int.natCast_mul _ _).symm
      rw [hNN] at hnn
      have HN := Lib.hid hN
      rw [hN] at x3
      clear hN
      obtain ⟨L, hL⟩ : ∃ L, NN / 64 + 1 = L := ⟨_, rfl⟩
      have hL2 : (NN : Int) / 64 + 1 = (L : Int) := by omega
      obtain ⟨T, hT⟩ : ∃ T, N * (N - 1) = T := ⟨_, rfl⟩
      have hT2 : (N : Int) * ((N : Int) - 1) = (T : Int) := by rw [← hT, Int.natCast_mul]; congr 1; omega
      have hT1 : 0 < T := by rw [← hT]; exact Nat.mul_pos (by omega) (by omega)
      have hTN : T ≤ NN := by rw [← hT, ← hNN]; exact Nat.mul_le_mul_left _ (by omega)
      have HNN := Lib.hid hNN
      have HTT := Lib.hid hT
      have HL := Lib.hid hL
      clear hNN hT
      have hmk := fun W => run_make_row' (P := Try.prog) 54 58 (.int .u64 0) 8 Try.underlying54 info_u64 rfl .i64 .i64 L (by omega) (by omega) W
      go_wp2_with (fail)
      have HBW := Lib.hid (Box.new wr 58 (madeCells #[.int .u64 0] L))
      have HKW := Lib.hid ((Kept.refl (fun _ => False) wr).alloc (.cells (madeCells #[.int .u64 0] L) 58))
      obtain ⟨w1, hw1⟩ : ∃ w1, wr.alloc (.cells (madeCells #[.int .u64 0] L) 58) = w1 := ⟨_, rfl⟩
      rw [hw1] at HBW HKW ⊢
      rw [made_words] at HBW
      obtain ⟨g, hg⟩ : ∃ g, wr.heap.size = g := ⟨_, rfl⟩
      have HG := Lib.hid hg
      rw [hg] at HBW ⊢
      clear hw1 hg hmk x1 x2 x3
      go_loopw [6, 9] (fun i lf wi => ∃ (q : Nat) (M : List (Int × Int)) (ws : Nat → Nat), i = .int .i64 q ∧ q ≤ h.es.length ∧ lf = .int .i64 ((T : Int) - (M.length : Int)) ∧ M.length < T ∧ WsOf h.ss M ws ∧ Box wi g 58 (wordsV L ws) ∧ Kept (fun _ => False) wr wi ∧ scan h.ss h.lim [] s (h.es.drop k) = scan h.ss h.lim M s (h.es.drop q)) (fun i _ _ => h.es.length - (intOf i).toNat)
      case atStart => exact ⟨k, [], fun _ => 0, rfl, hk, by simp, hT1, WsOf.zero _, HBW.out, HKW.out, rfl⟩
      case round =>
        obtain ⟨q, M, ws, rfl, hq, rfl, hM, hws, hbw, hkw, hsc⟩ := hrel
        have hat := HA1.out.fresh hkw
        have x1 := hat.f.cell 0
        have x2 := hat.t.cell 0
        have x3 := hat.s_.cell 0
        have x4 := hat.e.cell 0
        rw [HN.out] at x3
        have HA2 := Lib.hid hat
        have HB2 := Lib.hid hbw
        have HK2 := Lib.hid hkw
        have HS2 := Lib.hid hsc
        have HW2 := Lib.hid hws
        have hev := HO.out.ev
        clear hat hbw hkw hsc hws HBW HKW
        obtain ⟨E, hE⟩ : ∃ E, h.es.length = E := ⟨_, rfl⟩
        have HE := Lib.hid hE
        rw [hE] at hq hev x4 hk
        rw [hE]
        clear hE
        by_cases hlt : q < E
        · have hin : (q : Int) < (E : Int) := by omega
          have hlt' : q < h.es.length := by rw [HE.out]; exact hlt
          obtain ⟨b, f0, hA, hc⟩ := HA2.out.ce.some_ (by rw [evs_len]; omega)
          have hr := ev_range hc q hlt'
          have hdr := List.drop_eq_getElem_cons hlt'
          obtain ⟨e, he⟩ : ∃ e, h.es[q] = e := ⟨_, rfl⟩
          have HEQ := Lib.hid he
          rw [he] at hr hdr
          have HR := Lib.hid hr
          have HS3 := Lib.hid (HS2.out.trans (congrArg _ hdr))
          rw [hA] at x4
          have HN7 := Lib.hid (Box.new wr 35 evZ)
          have HK7 := Lib.hid ((Kept.refl (fun _ => False) wr).alloc (.cells evZ 35))
          clear hc hr hdr he hA HS2
          go_upto_region 8 with (first | refine load_ev rfl _ rfl b (f0 + q * 7) rfl e HR.out ?_ | (refine store_ev rfl _ _ rfl wr.heap.size _ rfl rfl evZ HN7.out rfl rfl e.one ?_; intro w4 HB4 hk4; refine Hid.out ?_))
          refine Lib.hid ?_
          have hk8 := HK7.out.trans hk4 fun k hk e => by omega
          have hb8 := HB4.out
          obtain ⟨D, hD⟩ : ∃ D, wr.heap.size = D := ⟨_, rfl⟩
          rw [hD] at hb8 ⊢
          have HD := Lib.hid hD
          have HK8 := Lib.hid hk8
          have HB8 := Lib.hid hb8
          clear hD hk4 HB4 HN7 HK7 HR
          have hat8 := HA2.out.fresh hk8
          go_upto_region 8 with (fail)
          have aE := Try.isAgg35
          have zE := Try.sizeOf35
          have mixed : Try.prog.follows .mixedOrders = true := by kernel_rfl
          have y0 := fun n os => cell_grown (w := _) (a := ⟨D, 0, none⟩) (by exact hb8.lt) ((hb8.cell 0).trans rfl) n os
          have y1 := fun n os => cell_grown (w := _) (a := ⟨D, 1, none⟩) (by exact hb8.lt) ((hb8.cell 1).trans rfl) n os
          have y2 := fun n os => cell_grown (w := _) (a := ⟨D, 2, none⟩) (by exact hb8.lt) ((hb8.cell 2).trans rfl) n os
          have y3 := fun n os => cell_grown (w := _) (a := ⟨D, 3, none⟩) (by exact hb8.lt) ((hb8.cell 3).trans rfl) n os
          have y4 := fun n os => cell_grown (w := _) (a := ⟨D, 4, none⟩) (by exact hb8.lt) ((hb8.cell 4).trans rfl) n os
          have y5 := fun n os => cell_grown (w := _) (a := ⟨D, 5, none⟩) (by exact hb8.lt) ((hb8.cell 5).trans rfl) n os
          have y6 := fun n os => cell_grown (w := _) (a := ⟨D, 6, none⟩) (by exact hb8.lt) ((hb8.cell 6).trans rfl) n os
          have z0 := fun n os => cell_grown (w := _) (a := ⟨h.Bt, 0, none⟩) (by exact hat8.t.lt) ((hat8.t.cell 0).trans rfl) n os
          have H1 := Lib.hid (fun W => end_any e W)
          clear hk8 hb8 hat8 x1 x2 x3 x4
          go_quiet_grown ((go_at_call 21; refine Calls.grown_of (H1.out _)))
          have HK9 := Lib.hid (HK8.out.trans (kept_grown _ nq osq) fun _ _ e => e)
          have HB9 := Lib.hid (HB8.out.kept (kept_grown (S := fun _ => False) _ nq osq) id)
          generalize grow (w4.drewN nq) osq = w5 at HK9 HB9 ⊢
          clear y0 y1 y2 y3 y4 y5 y6 z0 HK8 HB8
          by_cases hstop : h.lim ≤ e.key
          · go_wp2_with (fail)
            rw [Exit.noGoto_normal]
            go_end0
            have hj := HJ.out _ _ _ HJ1.out ((HK2.out.trans HK9.out fun _ _ e => e).more (T := fun k => k = h.Bf) fun _ _ e => e.elim)
            rw [HT1.out, HS3.out, scan_stop hstop, List.append_nil]
            exact ⟨⟨_, rfl⟩, _, rfl, hj⟩
          · have hat9 := HA2.out.fresh HK9.out
            have x1 := hat9.f.cell 0
            have x3 := hat9.s_.cell 0
            rw [HN.out] at x3
            have y0 := HB9.out.cell 0
            have y1 := HB9.out.cell 1
            have y3 := HB9.out.cell 3
            have y4 := HB9.out.cell 4
            have y5 := HB9.out.cell 5
            have y6 := HB9.out.cell 6
            obtain ⟨c1, hc1⟩ : ∃ c, h.ss.contains e.src = c := ⟨_, rfl⟩
            obtain ⟨c2, hc2⟩ : ∃ c, h.ss.contains e.dst = c := ⟨_, rfl⟩
            obtain ⟨pa, hpa⟩ : ∃ c, plc h.ss e.src = c := ⟨_, rfl⟩
            obtain ⟨pb, hpb⟩ : ∃ c, plc h.ss e.dst = c := ⟨_, rfl⟩
            have hs1 := fun W (hh : CellsAt W h.AS (ints h.ss)) => Search_any (c := h.cS) hh HO.out.up (by rw [HN.out]; omega) (by rw [HN.out]; omega) e.src
            have hs2 := fun W (hh : CellsAt W h.AS (ints h.ss)) => Search_any (c := h.cS) hh HO.out.up (by rw [HN.out]; omega) (by rw [HN.out]; omega) e.dst
            rw [HN.out, hc1, hpa] at hs1
            rw [HN.out, hc2, hpb] at hs2
            have HS1 := Lib.hid hs1
            have HS2 := Lib.hid hs2
            have HC1 := Lib.hid hc1
            have HC2 := Lib.hid hc2
            have HPA := Lib.hid hpa
            have HPB := Lib.hid hpb
            have HCS := Lib.hid hat9.cs
            clear hs1 hs2 hc1 hc2 hpa hpb hat9
            go_wp2_with (fail)
            refine (HS1.out _ HCS.out).mono ?_
            rintro r w6 ⟨rfl, n6, rfl⟩
            go_wp2_with (fail)
            refine (HS2.out _ (HCS.out.fresh (Kept.drewN_eq _))).mono ?_
            rintro r w6 ⟨rfl, n7, rfl⟩
            obtain ⟨w7, hw7⟩ : ∃ w7, w5.drewN (n6 + n7) = w7 := ⟨_, rfl⟩
            have hk57 : Kept (fun _ => False) w5 w7 := hw7 ▸ Kept.drewN_eq _
            have hk7 := HK9.out.trans hk57 fun _ _ e => e
            have hb7 := HB9.out.kept hk57 id
            go_upto_region 11 with (fail)
            have HK7 := Lib.hid hk7
            have HB7 := Lib.hid hb7
            have hat7 := HA2.out.fresh hk7
            have x1 := hat7.f.cell 0
            have y0 := HB7.out.cell 0
            have y1 := HB7.out.cell 1
            have y3 := HB7.out.cell 3
            have y4 := HB7.out.cell 4
            have y5 := HB7.out.cell 5
            have y6 := HB7.out.cell 6
            clear hw7 hk57 hk7 hb7 hat7 x3 HS1 HS2 HCS HB9 HK9
            have hrl : relB h.ss s e = (decide (e.kind = 2) && !e.bad && decide (s ≤ min e.step e.sent) && c1 && c2 && decide (pa ≠ pb)) := by
              have q1 := HC1.out
              have q2 := HC2.out
              unfold relB
              rw [q1, q2]
              cases c1 with
              | false => simp
              | true =>
                cases c2 with
                | false => simp
                | true =>
                  have := @plc_inj h.ss HO.out.up e.src e.dst (by simpa using q1) (by simpa using q2)
                  rw [HPA.out, HPB.out] at this
                  have h2 : e.src = e.dst ↔ pa = pb := ⟨fun hh => by rw [← HPA.out, ← HPB.out, hh], this⟩
                  simp [h2]
            obtain ⟨bb, hbb⟩ : ∃ bb, (!relB h.ss s e) = bb := ⟨_, rfl⟩
            have HBR := Lib.hid hbb
            rw [hrl] at hbb
            have HBB := Lib.hid hbb
            clear hrl hbb
            go_cut [88] (fun v wx => v = .bool bb ∧ wx = w7)
            case first =>
              obtain ⟨kd, hkd⟩ : ∃ kd, e.kind = kd := ⟨_, rfl⟩
              obtain ⟨bd, hbd⟩ : ∃ bd, e.bad = bd := ⟨_, rfl⟩
              obtain ⟨mn, hmn⟩ : ∃ mn, min e.step e.sent = mn := ⟨_, rfl⟩
              rw [hkd, hbd, hmn] at HBB
              replace y1 : w7.cell? ⟨D, 1, none⟩ = some (.int .i64 kd) := by rw [y1, ← hkd]; rfl
              replace y6 : w7.cell? ⟨D, 6, none⟩ = some (.bool bd) := by rw [y6, ← hbd]; rfl
              clear hkd hbd
              by_cases k2 : kd = 2
              · cases bd with
                | true =>
                  obtain rfl : true = bb := by rw [← HBB.out]; simp [k2]
                  go_wp2_with (fail)
                  go_meet
                  case rel => exact ⟨rfl, rfl⟩
                | false =>
                  by_cases hm : mn < s
                  · have hm2 : ¬ s ≤ mn := by omega
                    obtain rfl : true = bb := by rw [← HBB.out]; simp [k2, hm2]
                    go_wp2_with (fail)
                    go_meet
                    case rel => exact ⟨rfl, rfl⟩
                  · have hm2 : s ≤ mn := by omega
                    cases c1 with
                    | false =>
                      obtain rfl : true = bb := by rw [← HBB.out]; simp [k2, hm2]
                      go_wp2_with (fail)
                      go_meet
                      case rel => exact ⟨rfl, rfl⟩
                    | true =>
                      cases c2 with
                      | false =>
                        obtain rfl : true = bb := by rw [← HBB.out]; simp [k2, hm2]
                        go_wp2_with (fail)
                        go_meet
                        case rel => exact ⟨rfl, rfl⟩
                      | true =>
                        by_cases hp : pa = pb
                        · have hp1 : ((pa : Int) == (pb : Int)) = true := by simp [hp]
                          obtain rfl : true = bb := by rw [← HBB.out]; simp [k2, hm2, hp]
                          clear hp
                          go_wp2_with (fail)
                          go_meet
                          case rel => exact ⟨rfl, rfl⟩
                        · have hp1 : ((pa : Int) == (pb : Int)) = false := by rw [beq_eq_false_iff_ne]; omega
                          obtain rfl : false = bb := by rw [← HBB.out]; simp [k2, hm2, hp]
                          clear hp
                          go_wp2_with (fail)
                          go_meet
                          case rel => exact ⟨rfl, rfl⟩
              · obtain rfl : true = bb := by rw [← HBB.out]; simp [k2]
                go_wp2_with (fail)
                go_meet
                case rel => exact ⟨rfl, rfl⟩
            case rest =>
              obtain ⟨rfl, hww⟩ := hcut
              subst hww
              clear HBB
              cases bb with
              | true =>
                have HNO := Lib.hid (show ¬ (relB h.ss s e = true ∧ (e.src, e.dst) ∉ M) from fun hh => by have := HBR.out; rw [hh.1] at this; cases this)
                go_wp2_with (fail)
                go_roundw
                case rel => exact ⟨q + 1, M, ws, by go_num, by omega, rfl, hM, HW2.out, HB2.out.kept HK7.out id, HK2.out.trans HK7.out fun _ _ e => e, by rw [HS3.out, scan_skip (by omega) HNO.out]⟩
                case measure => (try rw [HE.out]); simp [intOf]; omega
              | false =>
                have hrb : relB h.ss s e = true := by simpa using HBR.out
                obtain ⟨-, -, r3, r4, r5, r6, r7⟩ := (relB_iff h.ss s e).1 hrb
                have h3 := plc_lt HO.out.up r5
                have h4 := plc_lt HO.out.up r6
                rw [HN.out, HPA.out] at h3
                rw [HN.out, HPB.out] at h4
                have h5 := pairN_lt HO.out.up (p := (e.src, e.dst)) r5 r6
                have h6 : pairN h.ss (e.src, e.dst) = pa * N + pb := by unfold pairN; rw [HN.out]; show plc h.ss e.src * N + plc h.ss e.dst = _; rw [HPA.out, HPB.out]
                rw [h6, HN.out, HNN.out] at h5
                have h7 : (pa * N + pb) / 64 < L := by rw [← HL.out]; omega
                have hbit := fun W => bit_any g L L pa pb N W h3 h4 (by omega) h7
                have htest := HW2.out.test HO.out.up (p := (e.src, e.dst)) r5 r6
                have hset := HW2.out.set (p := (e.src, e.dst)) r5 r6
                rw [h6] at htest hset
                obtain ⟨KQ, hKQ⟩ : ∃ KQ, (pa * N + pb) / 64 = KQ := ⟨_, rfl⟩
                obtain ⟨PW, hPW⟩ : ∃ PW, 2 ^ ((pa * N + pb) % 64) = PW := ⟨_, rfl⟩
                rw [hKQ, hPW] at hbit htest hset
                rw [hKQ] at h7
                have hgl := HB2.out.lt
                have hbw := HB2.out.kept HK7.out id
                have x3 := (hbw.cell KQ).trans (wordsV_get ws h7)
                have x5 := hbw.frozen KQ
                have HBIT := Lib.hid hbit
                have HSET := Lib.hid hset
                have HRB := Lib.hid hrb
                obtain ⟨z, hz⟩ : ∃ z, bits .and .u64 (ws KQ : Int) (PW : Int) = z := ⟨_, rfl⟩
                rw [hz] at htest
                have HTEST := Lib.hid htest
                have HBW := Lib.hid hbw
                clear hbit htest hset hKQ hPW h6 h5 hrb hbw r3 r4 r5 r6 r7
                go_wp2_with (fail)
                refine (HBIT.out _).mono ?_
                rintro r w6 ⟨rfl, rfl⟩
                by_cases hzz : z = 0
                · subst hzz
                  obtain ⟨hor, hset⟩ := HSET.out
                  obtain ⟨nv, hnv⟩ : ∃ nv, ws KQ ||| PW = nv := ⟨_, rfl⟩
                  rw [hnv] at hor hset
                  have HSE := Lib.hid hset
                  have hpm := HTEST.out.1 rfl
                  have HPM := Lib.hid hpm
                  have HB1 := Lib.hid (wordsV_set (L := L) ws KQ nv ▸ HBW.out.set KQ (.int .u64 (nv : Int)))
                  have HKR := Lib.hid (HK2.out.trans HK7.out fun _ _ e => e)
                  have HKS := Lib.hid (HKR.out.at KQ (.int .u64 (nv : Int)) (g := g) (.inr (Nat.le_of_eq HG.out)))
                  clear hset hpm hnv HSET HTEST
                  by_cases hfin : M.length + 1 = T
                  · have hgt : ¬ (0 : Int) < (T : Int) - (M.length : Int) - 1 := by omega
                    go_upto_region 17 with (fail)
                    have hb8 := HB7.out.far (p := ⟨g, KQ, none⟩) (HB7.out.ne HBW.out (by decide)) (.int .u64 (nv : Int))
                    obtain ⟨w8, hw8⟩ : ∃ w8, w6.setCell ⟨g, KQ, none⟩ (.int .u64 (nv : Int)) = w8 := ⟨_, rfl⟩
                    rw [hw8] at hb8 HKS ⊢
                    have hat8 := HA1.out.fresh HKS.out
                    have HB8 := Lib.hid hb8
                    have HK8 := Lib.hid HKS.out
                    clear hw8 HKS HB1 HSE HBW HKR HB7 HK7 HA2 x1 x3 x5 y0 y1 y3 y4 y5 y6 hor
                    have x1 := hat8.f.cell 0
                    have y0 := hb8.cell 0
                    have y1 := hb8.cell 1
                    have y2 := hb8.cell 2
                    have y3 := hb8.cell 3
                    have y4 := hb8.cell 4
                    have y5 := hb8.cell 5
                    have y6 := hb8.cell 6
                    have aE := Try.isAgg35
                    have zE := Try.sizeOf35
                    have hge : ∀ W : World, Calls Try.prog 21 #[.agg #[.int .i64 e.step, .int .i64 e.kind, .int .i64 e.copy, .int .i64 e.src, .int .i64 e.dst, .int .i64 e.sent, .bool e.bad]] W.drew fun r w' => r = .returned (.int .i64 e.key) ∧ ∃ q os', w' = grow (W.drewN q) os' := fun W => (end_any e W.drew).mono fun r w' hh => ⟨hh.1, by obtain ⟨q, os, h1⟩ := hh.2; exact ⟨1 + q, os, by rw [h1, ← World.drewN_drewN]; rfl⟩⟩
                    have z1 := fun n os => cell_grown (w := _) (a := ⟨h.Bf, 0, none⟩) (by exact hat8.f.lt) ((hat8.f.cell 0).trans rfl) n os
                    have H1 := Lib.hid hge
                    have HE2 := Lib.hid (fun W => end_any e W)
                    have hkk : 0 ≤ e.key ∧ s < e.key + 1 := by
                      obtain ⟨-, -, r3, -, -, -, -⟩ := (relB_iff h.ss s e).1 HRB.out
                      have := key_le e
                      omega
                    obtain ⟨hk0, hks⟩ := hkk
                    have hkm : e.key < 9223372036854775807 := by have := HO.out.hlim; omega
                    have hwr : IntKind.i64.wrap (e.key + 1) = e.key + 1 := IntWalk.i64_in _ ⟨by omega, by omega⟩
                    have HWR := Lib.hid hwr
                    have HPL := Lib.hid (show pre.length < h.es.length by
                      have h1 := scan_len (ss := h.ss) (lim := h.lim) h.es [] s0
                      rw [HT1.out, HS3.out, scan_win (by omega) HRB.out HPM.out (by rw [HN.out, HTT.out]; exact hfin), List.length_append, List.length_cons] at h1
                      omega)
                    have hyy : ∀ q os, ∃ fn tmps assign body, (Instr.yield l #[.agg #[.int .i64 s, .int .i64 (IntKind.i64.wrap (e.key + 1))]]).run Try.prog (grow (w8.drewN q) os) = .ok (.round l fn tmps assign body) (grow (w8.drewN q) os) ∧ RoundIn Fence.wide (n - 1) Try.prog l fn tmps assign body (grow (w8.drewN q) os) fun e' W' => e' = .returned (.bool true) ∧ J (pre ++ [(s, e.key + 1)]) W' ∧ KpW h.m h.C (grow (w8.drewN q) os) W' := fun q os => by
                      rw [hwr]
                      exact HY.out pre (s, e.key + 1) _ (HJ.out _ _ _ HJ1.out ((HK8.out.trans (kept_grown _ q os) fun _ _ e => e).more (T := fun k => k = h.Bf) fun _ _ e => e.elim)) HPL.out
                    obtain ⟨fn, tmps, assign, body, hyR⟩ := pick4 hyy
                    have hy := fun q os => (hyR q os).1
                    have hR := fun q os => (hyR q os).2
                    clear hyR hyy hwr
                    have HRR := Lib.hid hR
                    clear hb8 hat8 hge hR
                    go_cut [120] (fun v wx => v = .bool false ∧ J (pre ++ [(s, e.key + 1)]) wx ∧ h.At wx s ∧ Box wx D 35 #[.int .i64 e.step, .int .i64 e.kind, .int .i64 e.copy, .int .i64 e.src, .int .i64 e.dst, .int .i64 e.sent, .bool e.bad])
                    case first =>
                      rename_i JX KX hJX hMX
                      refine (wpIn_wide (n := n)).1 ?_
                      gi_region_with (first | (refine ⟨trivial, (callsIn_wide.2 (H1.out _)).mono ?_⟩; rintro r w9 ⟨rfl, q9, os9, rfl⟩) | (refine (HRR.out _ _).mono ?_; rintro r w9 ⟨rfl, hj9, hk9⟩))
                      all_goals
                        show KX _ _
                        refine hMX _ _ (Met.intro (hJX _ _ ?_))
                        (try simp only [go_sem])
                        (repeat apply Exists.intro)
                        refine ⟨?rel, rfl⟩
                        case rel =>
                          refine ⟨rfl, hj9, Wh.At.kp HO.out (HA1.out.fresh (HK8.out.trans (kept_grown _ q9 os9) fun _ _ e => e)) hk9, hk9.evb _ _ (HB8.out.kept (kept_grown (S := fun _ => False) _ q9 os9) id)⟩
                    case rest =>
                      obtain ⟨rfl, hjc, hatc, hbc⟩ := hcut
                      clear x1 y0 y1 y2 y3 y4 y5 y6 hy HRR HB8 HK8
                      have x1 := hatc.f.cell 0
                      have x2 := hatc.f.frozen 0
                      have y0 := hbc.cell 0
                      have y1 := hbc.cell 1
                      have y2 := hbc.cell 2
                      have y3 := hbc.cell 3
                      have y4 := hbc.cell 4
                      have y5 := hbc.cell 5
                      have y6 := hbc.cell 6
                      have HJC := Lib.hid hjc
                      have HAC := Lib.hid hatc
                      have HBC := Lib.hid hbc
                      clear hjc hatc hbc
                      go_upto_region 18 with (fail)
                      go_wp2_with (fail)
                      refine (HE2.out _).mono ?_
                      rintro r w9 ⟨rfl, q9, os9, hw9⟩
                      have hkg : Kept (fun _ => False) wc w9 := by rw [hw9]; exact kept_grown _ _ _
                      have hat9 := HAC.out.fresh hkg
                      have HJ9 := Lib.hid (HJ.out _ _ _ HJC.out ((hkg.more (T := fun k => k = h.Bf) fun _ _ e => e.elim).at 0 (.int .i64 (e.key + 1)) (g := h.Bf) (.inl rfl)))
                      have HA9 := Lib.hid (hat9.put HO.out (e.key + 1))
                      clear hw9 hkg x1 x2 y0 y1 y2 y3 y4 y5 y6 z1
                      have x1 := hat9.f.cell 0
                      have x2 := hat9.f.frozen 0
                      clear hat9
                      go_wp2_with (fail)
                      go_roundw
                      case rel => exact ⟨q, pre ++ [(s, e.key + 1)], e.key + 1, rfl, by rw [HE.out]; omega, by omega, HA9.out, HJ9.out, by rw [HT1.out, HS3.out, scan_win (by omega) HRB.out HPM.out (by rw [HN.out, HTT.out]; exact hfin), List.append_assoc, List.drop_eq_getElem_cons hlt', HEQ.out]; rfl⟩
                      case measure =>
                        have e1 := HA9.out.f.cell 0
                        have e2 := HA1.out.f.cell 0
                        rw [e1, e2]
                        simp [intOf]
                        omega
                  · have hgt : (0 : Int) < (T : Int) - (M.length : Int) - 1 := by omega
                    go_wp2_with (fail)
                    go_roundw
                    case rel => exact ⟨q + 1, (e.src, e.dst) :: M, _, by go_num, by omega, by rw [List.length_cons]; exact congrArg (Value.int .i64) (by omega), by rw [List.length_cons]; omega, HSE.out, HB1.out, HKS.out, by rw [HS3.out, scan_add (by omega) HRB.out HPM.out (by rw [HN.out, HTT.out]; exact hfin)]⟩
                    case measure => (try rw [HE.out]); simp [intOf]; omega
                · go_wp2_with (fail)
                  go_roundw
                  case rel => exact ⟨q + 1, M, ws, by go_num, by omega, rfl, hM, HW2.out, HB2.out.kept HK7.out id, HK2.out.trans HK7.out fun _ _ e => e, by rw [HS3.out, scan_skip (by omega) fun hh => hzz (HTEST.out.2 hh.2)]⟩
                  case measure => (try rw [HE.out]); simp [intOf]; omega
        · have hin : ¬ (q : Int) < (E : Int) := by omega
          go_wp2_with (fail)
          go_end0
          have hj := HJ.out _ _ _ HJ1.out (HK2.out.more (T := fun k => k = h.Bf) fun _ _ e => e.elim)
          have hd : h.es.drop q = [] := List.drop_eq_nil_of_le (by rw [HE.out]; omega)
          rw [HT1.out, HS2.out, hd]
          exact ⟨⟨_, rfl⟩, by rw [show scan h.ss h.lim M s [] = [] from by unfold scan; rfl, List.append_nil]; exact hj⟩
    · go_wp2_with (fail)
      go_end0
      have hj := HJ1.out
      rw [HT1.out, scan_late _ _ _ (by omega), List.append_nil]
      exact ⟨⟨_, rfl⟩, hj⟩
end Go.Proofs.Ytkekhnohehhljaa
