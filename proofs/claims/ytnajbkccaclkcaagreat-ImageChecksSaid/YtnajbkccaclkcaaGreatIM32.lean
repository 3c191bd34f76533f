/- hearsaylaw9.same at equal data and back walked. Conditions: all lies in memory; nothing is longer than a million. · hearsaylaw9.back of a lent image walked. Conditions: all lies in memory; nothing is longer than a million. · A Writer made since a world; image.numbers walked. Conditions: what is handed in lies in memory; the numbers are none below 0. -/
import Derived.Test.YtnajbkccaclkcaaGreatIM28
import Derived.Test.YtnajbkccaclkcaaGreatIM31
import Derived.Test.YtnajbkccaclkcaaGreatIM15
import Derived.Test.YtnajbkccaclkcaaGreatIM14
import Derived.Test.YtnajbkccaclkcaaGreatIM22
namespace Go.Proofs.YtnajbkccaclkcaaGreat
open Go Go.RowKit

/-- Two images of the same data. -/
structure SameIm (x y : Im) : Prop where
  v : y.v = x.v
  b : y.b = x.b
  clock : y.clock = x.clock
  log : y.log.map (·.o) = x.log.map (·.o)
  nodes : y.nodes = x.nodes
  joined : y.joined = x.joined
  left : y.left = x.left
  epoch : y.epoch = x.epoch
theorem map_get {l m : List Lop} (h : m.map (·.o) = l.map (·.o)) (k : Nat) (h1 : k < l.length) (h2 : k < m.length) : m[k].o = l[k].o := by
  have e : (m.map (·.o))[k]? = (l.map (·.o))[k]? := by rw [h]
  rw [List.getElem?_map, List.getElem?_map, List.getElem?_eq_getElem h2, List.getElem?_eq_getElem h1] at e
  simpa using e

set_option maxRecDepth 100000 in
set_option maxHeartbeats 8000000 in
theorem same9_true (x y : Im) (w : World) (hx : x.At w) (hy : y.At w) (hxy : SameIm x y) (hs : x.Small) : Calls Tryz.prog 16 #[.agg x.c, .agg y.c] w (SamePost w true) := by
  obtain ⟨v, vA, vc, b, bA, bc, clock, lx, lA, lc, nodes, nA, nc, joined, jA, jc, left, eA, ec, epoch⟩ := x
  obtain ⟨v', vB, vd, b', bB, bd, clock', ly, lB, ld, nodes', nB, nd, joined', jB, jd, left', eB, ed, epoch'⟩ := y
  obtain ⟨h1, h2, h3, h4, h5, h6, h7, h8⟩ := hxy
  simp only at h1 h2 h3 h4 h5 h6 h7 h8
  subst h1 h2 h3 h5 h6 h7 h8
  obtain ⟨v, b, clock, nodes, joined, left, epoch, hv, hb, hc, hn, hj, he, hp⟩ : ∃ v2 b2 clock2 nodes2 joined2 left2 epoch2, v' = v2 ∧ b' = b2 ∧ clock' = clock2 ∧ nodes' = nodes2 ∧ joined' = joined2 ∧ left' = left2 ∧ epoch' = epoch2 := ⟨_, _, _, _, _, _, _, rfl, rfl, rfl, rfl, rfl, rfl, rfl⟩
  subst hv hb hc hn hj he hp
  have hl1 : v'.length ≤ 1000000 := hs.v
  have hl2 : b'.length ≤ 1000000 := hs.b
  have hl3 : lx.length ≤ 1000000 := hs.log
  have hl4 : nodes'.length ≤ 1000000 := hs.nodes
  have hl5 : joined'.length ≤ 1000000 := hs.joined
  have hl6 : left'.length ≤ 1000000 := hs.left
  have HS1 := Lib.hid (fun W (hW : Kept (fun _ => False) w W) => Same_any vA vB v' v' vc vd W (hx.v.fresh hW) (hy.v.fresh hW) (by omega))
  have HS2 := Lib.hid (fun W (hW : Kept (fun _ => False) w W) => Same_any bA bB b' b' bc bd W (hx.b.fresh hW) (hy.b.fresh hW) (by omega))
  have HS3 := Lib.hid (fun W (hW : Kept (fun _ => False) w W) => ints9_true jA jB joined' jc jd W (hx.joined.fresh hW) (hy.joined.fresh hW) hl5)
  have HS4 := Lib.hid (fun W (hW : Kept (fun _ => False) w W) => ints9_true eA eB left' ec ed W (hx.left.fresh hW) (hy.left.fresh hW) hl6)
  rw [decide_eq_true rfl] at HS1 HS2
  have hlen : ly.length = lx.length := by
    have := congrArg List.length h4
    simpa using this
  have HLX := Lib.hid (show CellsAt w lA (lops lx) from hx.log)
  have HLY := Lib.hid (show CellsAt w lB (lops ly) from hy.log)
  have HNX := Lib.hid (show CellsAt w nA (nds nodes') from hx.nodes)
  have HNY := Lib.hid (show CellsAt w nB (nds nodes') from hy.nodes)
  have HOX := Lib.hid (show ∀ z ∈ lx, z.At w from hx.ops)
  have HOY := Lib.hid (show ∀ z ∈ ly, z.At w from hy.ops)
  have HSM := Lib.hid (show ∀ z ∈ lx, z.o.Small from hs.ops)
  have HGET := Lib.hid (map_get h4)
  unfold Im.c
  simp only
  rw [hlen]
  obtain ⟨N, hN⟩ : ∃ N, lx.length = N := ⟨_, rfl⟩
  rw [hN] at hl3 hlen ⊢
  have HN := Lib.hid hN
  have HM := Lib.hid hlen
  clear hx hy hs h4 hN hlen
  have hk : Kept (fun _ => False) w ((w.alloc (.cells #[.slice vA v'.length vc, .slice bA b'.length bc, .int .i64 clock', .slice lA N lc, .slice nA nodes'.length nc, .slice jA joined'.length jc, .slice eA left'.length ec, .int .i64 epoch'] 28)).alloc (.cells #[.slice vB v'.length vd, .slice bB b'.length bd, .int .i64 clock', .slice lB N ld, .slice nB nodes'.length nd, .slice jB joined'.length jd, .slice eB left'.length ed, .int .i64 epoch'] 28)) := ((Kept.refl _ _).alloc _).alloc _
  have hb1 := (Box.new w 28 #[.slice vA v'.length vc, .slice bA b'.length bc, .int .i64 clock', .slice lA N lc, .slice nA nodes'.length nc, .slice jA joined'.length jc, .slice eA left'.length ec, .int .i64 epoch']).alloc (.cells #[.slice vB v'.length vd, .slice bB b'.length bd, .int .i64 clock', .slice lB N ld, .slice nB nodes'.length nd, .slice jB joined'.length jd, .slice eB left'.length ed, .int .i64 epoch'] 28)
  have hb2 := Box.new (w.alloc (.cells #[.slice vA v'.length vc, .slice bA b'.length bc, .int .i64 clock', .slice lA N lc, .slice nA nodes'.length nc, .slice jA joined'.length jc, .slice eA left'.length ec, .int .i64 epoch'] 28)) 28 #[.slice vB v'.length vd, .slice bB b'.length bd, .int .i64 clock', .slice lB N ld, .slice nB nodes'.length nd, .slice jB joined'.length jd, .slice eB left'.length ed, .int .i64 epoch']
  rw [World.size_alloc] at hb2
  go_enter Tryz.func16, Tryz.ntmps16
  go_upto_region 1 with (fail)
  generalize (w.alloc (.cells #[.slice vA v'.length vc, .slice bA b'.length bc, .int .i64 clock', .slice lA N lc, .slice nA nodes'.length nc, .slice jA joined'.length jc, .slice eA left'.length ec, .int .i64 epoch'] 28)).alloc (.cells #[.slice vB v'.length vd, .slice bB b'.length bd, .int .i64 clock', .slice lB N ld, .slice nB nodes'.length nd, .slice jB joined'.length jd, .slice eB left'.length ed, .int .i64 epoch'] 28) = w1 at hk hb1 hb2 ⊢
  obtain ⟨g, hg⟩ : ∃ g, w.heap.size = g := ⟨_, rfl⟩
  rw [hg] at hb1 hb2 ⊢
  have HK := Lib.hid hk
  have HX0 := Lib.hid (show ∀ W, Kept (fun _ => False) w1 W → W.cell? ⟨g, 0, none⟩ = some (.slice vA v'.length vc) from fun W hW => by simpa using (hb1.kept hW id).cell 0)
  have HY0 := Lib.hid (show ∀ W, Kept (fun _ => False) w1 W → W.cell? ⟨g + 1, 0, none⟩ = some (.slice vB v'.length vd) from fun W hW => by simpa using (hb2.kept hW id).cell 0)
  have HX1 := Lib.hid (show ∀ W, Kept (fun _ => False) w1 W → W.cell? ⟨g, 1, none⟩ = some (.slice bA b'.length bc) from fun W hW => by simpa using (hb1.kept hW id).cell 1)
  have HY1 := Lib.hid (show ∀ W, Kept (fun _ => False) w1 W → W.cell? ⟨g + 1, 1, none⟩ = some (.slice bB b'.length bd) from fun W hW => by simpa using (hb2.kept hW id).cell 1)
  have HX2 := Lib.hid (show ∀ W, Kept (fun _ => False) w1 W → W.cell? ⟨g, 2, none⟩ = some (.int .i64 clock') from fun W hW => by simpa using (hb1.kept hW id).cell 2)
  have HY2 := Lib.hid (show ∀ W, Kept (fun _ => False) w1 W → W.cell? ⟨g + 1, 2, none⟩ = some (.int .i64 clock') from fun W hW => by simpa using (hb2.kept hW id).cell 2)
  have HX3 := Lib.hid (show ∀ W, Kept (fun _ => False) w1 W → W.cell? ⟨g, 3, none⟩ = some (.slice lA N lc) from fun W hW => by simpa using (hb1.kept hW id).cell 3)
  have HY3 := Lib.hid (show ∀ W, Kept (fun _ => False) w1 W → W.cell? ⟨g + 1, 3, none⟩ = some (.slice lB N ld) from fun W hW => by simpa using (hb2.kept hW id).cell 3)
  have HX4 := Lib.hid (show ∀ W, Kept (fun _ => False) w1 W → W.cell? ⟨g, 4, none⟩ = some (.slice nA nodes'.length nc) from fun W hW => by simpa using (hb1.kept hW id).cell 4)
  have HY4 := Lib.hid (show ∀ W, Kept (fun _ => False) w1 W → W.cell? ⟨g + 1, 4, none⟩ = some (.slice nB nodes'.length nd) from fun W hW => by simpa using (hb2.kept hW id).cell 4)
  have HX5 := Lib.hid (show ∀ W, Kept (fun _ => False) w1 W → W.cell? ⟨g, 5, none⟩ = some (.slice jA joined'.length jc) from fun W hW => by simpa using (hb1.kept hW id).cell 5)
  have HY5 := Lib.hid (show ∀ W, Kept (fun _ => False) w1 W → W.cell? ⟨g + 1, 5, none⟩ = some (.slice jB joined'.length jd) from fun W hW => by simpa using (hb2.kept hW id).cell 5)
  have HX6 := Lib.hid (show ∀ W, Kept (fun _ => False) w1 W → W.cell? ⟨g, 6, none⟩ = some (.slice eA left'.length ec) from fun W hW => by simpa using (hb1.kept hW id).cell 6)
  have HY6 := Lib.hid (show ∀ W, Kept (fun _ => False) w1 W → W.cell? ⟨g + 1, 6, none⟩ = some (.slice eB left'.length ed) from fun W hW => by simpa using (hb2.kept hW id).cell 6)
  have HX7 := Lib.hid (show ∀ W, Kept (fun _ => False) w1 W → W.cell? ⟨g, 7, none⟩ = some (.int .i64 epoch') from fun W hW => by simpa using (hb1.kept hW id).cell 7)
  have HY7 := Lib.hid (show ∀ W, Kept (fun _ => False) w1 W → W.cell? ⟨g + 1, 7, none⟩ = some (.int .i64 epoch') from fun W hW => by simpa using (hb2.kept hW id).cell 7)
  clear hk hb1 hb2 hg
  have x0 := HX0.out _ (Kept.refl _ _)
  have y0 := HY0.out _ (Kept.refl _ _)
  go_wp2_with (fail)
  refine (HS1.out _ HK.out).mono ?_
  unfold SamePost
  rintro r w2 ⟨rfl, hk2⟩
  have HK2 := Lib.hid hk2
  clear hk2 x0 y0
  have x1 := HX1.out _ HK2.out
  have y1 := HY1.out _ HK2.out
  go_wp2_with (fail)
  refine (HS2.out _ (HK.out.trans HK2.out fun _ _ e => e)).mono ?_
  rintro r w3 ⟨rfl, hk3⟩
  have HK3 := Lib.hid (HK2.out.trans hk3 fun _ _ e => e)
  clear hk3 x1 y1
  have x2 := HX2.out _ HK3.out
  have y2 := HY2.out _ HK3.out
  have x7 := HX7.out _ HK3.out
  have y7 := HY7.out _ HK3.out
  have x5 := HX5.out _ HK3.out
  have y5 := HY5.out _ HK3.out
  go_wp2_with (fail)
  refine (HS3.out _ (HK.out.trans HK3.out fun _ _ e => e)).mono ?_
  rintro r w4 ⟨rfl, hk4⟩
  have HK4 := Lib.hid (HK3.out.trans hk4 fun _ _ e => e)
  clear hk4 x2 y2 x7 y7 x5 y5
  have x6 := HX6.out _ HK4.out
  have y6 := HY6.out _ HK4.out
  go_wp2_with (fail)
  refine (HS4.out _ (HK.out.trans HK4.out fun _ _ e => e)).mono ?_
  rintro r w5 ⟨rfl, hk5⟩
  have HK5 := Lib.hid (HK4.out.trans hk5 fun _ _ e => e)
  clear hk5 x6 y6
  have x3 := HX3.out _ HK5.out
  have y3 := HY3.out _ HK5.out
  have x4 := HX4.out _ HK5.out
  have y4 := HY4.out _ HK5.out
  go_wp2_with (fail)
  clear x3 y3 x4 y4
  go_loopw [5] (fun i wr => ∃ k : Nat, i = .int .i64 k ∧ k ≤ N ∧ Kept (fun _ => False) w1 wr) (fun i _ => N - (intOf i).toNat)
  case atStart => exact ⟨0, rfl, Nat.zero_le _, HK5.out⟩
  case round =>
    obtain ⟨k, rfl, hk, hkw⟩ := hrel
    have HKW := Lib.hid hkw
    have HKR := Lib.hid (HK.out.trans hkw fun _ _ e => e)
    have x3 := HX3.out _ hkw
    have y3 := HY3.out _ hkw
    clear hkw
    by_cases hlt : k < N
    · as_aux_lemma =>
      have hin : (k : Int) < (N : Int) := by omega
      have hkl : k < lx.length := by rw [HN.out]; exact hlt
      have hkm : k < ly.length := by rw [HM.out]; exact hlt
      obtain ⟨b1, f1, hA, hc⟩ := HLX.out.some_ (by rw [lops_len]; omega)
      obtain ⟨b2, f2, hB, hc'⟩ := HLY.out.some_ (by rw [lops_len]; omega)
      subst hA hB
      have hr1 := lop_range (w := w) hc k hkl
      have hr2 := lop_range (w := w) hc' k hkm
      have HOP := Lib.hid (fun W (hW : Kept (fun _ => False) w W) => op9_true lx[k] ly[k] W ((HOX.out _ (List.getElem_mem hkl)).fresh hW) ((HOY.out _ (List.getElem_mem hkm)).fresh hW) (HGET.out k hkl hkm) (HSM.out _ (List.getElem_mem hkl)))
      obtain ⟨p, hp⟩ : ∃ p, lx[k] = p := ⟨_, rfl⟩
      obtain ⟨q, hq⟩ : ∃ q, ly[k] = q := ⟨_, rfl⟩
      rw [hp] at hr1 HOP
      rw [hq] at hr2 HOP
      obtain ⟨ps, hps⟩ : ∃ ps, p.c = ps := ⟨_, rfl⟩
      obtain ⟨qs, hqs⟩ : ∃ qs, q.c = qs := ⟨_, rfl⟩
      rw [hps, hqs] at HOP
      have HPS := Lib.hid hps
      have HQS := Lib.hid hqs
      have HR1 := Lib.hid (show ∀ W, Kept (fun _ => False) w W → W.rangeAt b1 (f1 + k * 11) p.c.toList from fun W hW => hW.rangeF hr1)
      have HR2 := Lib.hid (show ∀ W, Kept (fun _ => False) w W → W.rangeAt b2 (f2 + k * 11) q.c.toList from fun W hW => hW.rangeF hr2)
      clear hc hc' hr1 hr2 hp hq hps hqs
      go_upto_region 6 with (fail)
      refine wp_region_class (C := fun w' => Kept (fun _ => False) wr w') (by kernel_rfl) (by kernel_rfl) (Kept.refl _ _).drew ?_
      iterate 12
        first | go_big_quiet_skip | (go_big_quiet_want; first | (go_big_quiet_op; go_big_quiet_on) | (apply Exists.intro; refine ⟨fun w' hS => ?_, ?_⟩; (first | (unfold Oper.quietAt; rw [run_load_lopM _ _ rfl b1 (f1 + k * 11) rfl p (HR1.out _ (HKR.out.trans hS fun _ _ e => e)) ps HPS.out]; exact ⟨rfl, rfl⟩) | (unfold Oper.quietAt; rw [run_load_lopM _ _ rfl b2 (f2 + k * 11) rfl q (HR2.out _ (HKR.out.trans hS fun _ _ e => e)) qs HQS.out]; exact ⟨rfl, rfl⟩) | (have d2 := hS.cellF x3; have d3 := hS.cellF y3; go_simp; first | rfl | exact ⟨rfl, rfl⟩ | ((with_reducible refine (HOP.out _ (HKR.out.trans hS fun _ _ e => e)).mono ?_); unfold SamePost; rintro e w2 ⟨rfl, hk⟩; exact ⟨rfl, hS.trans hk fun _ _ e => e⟩))); (try simp only [Act.put, List.setIfInBounds_toArray, List.set_cons_zero, List.set_cons_succ]); go_big_quiet_on))
      refine wpQuiet_nil ?_
      intro w6 hS
      have HK6 := Lib.hid (HKW.out.trans hS fun _ _ e => e)
      clear hS x3 y3
      go_wp2_with (fail)
      go_roundw
      case rel => exact ⟨k + 1, by go_num, by omega, HK6.out⟩
      case measure => simp [intOf]; omega
    · have hin : ¬ (k : Int) < (N : Int) := by omega
      obtain ⟨M, hM⟩ : ∃ M, nodes'.length = M := ⟨_, rfl⟩
      rw [hM] at hl4 HX4 HY4
      rw [hM]
      have HMM := Lib.hid hM
      clear hM
      go_wp2_with (fail)
      clear x3 y3
      go_loopw [6] (fun i wr => ∃ k : Nat, i = .int .i64 k ∧ k ≤ M ∧ Kept (fun _ => False) w1 wr) (fun i _ => M - (intOf i).toNat)
      case atStart => exact ⟨0, rfl, Nat.zero_le _, HKW.out⟩
      case round =>
        obtain ⟨q, rfl, hq, hkx⟩ := hrel
        have HKX := Lib.hid hkx
        have HKS := Lib.hid (HK.out.trans hkx fun _ _ e => e)
        have x4 := HX4.out _ hkx
        have y4 := HY4.out _ hkx
        clear hkx
        by_cases hlt2 : q < M
        · as_aux_lemma =>
          have hin2 : (q : Int) < (M : Int) := by omega
          have hql : q < nodes'.length := by rw [HMM.out]; exact hlt2
          obtain ⟨b1, f1, hA, hc⟩ := HNX.out.some_ (by rw [nds_len]; omega)
          obtain ⟨b2, f2, hB, hc'⟩ := HNY.out.some_ (by rw [nds_len]; omega)
          subst hA hB
          have hr := nd_range (w := wr) (fun j u hj => HKS.out.cellF (hc j u hj)) q hql
          have hr2 := nd_range (w := wr) (fun j u hj => HKS.out.cellF (hc' j u hj)) q hql
          obtain ⟨z, hz⟩ : ∃ z, nodes'[q] = z := ⟨_, rfl⟩
          rw [hz] at hr hr2
          obtain ⟨⟨a0, a1⟩, ⟨a2, a3⟩, a4, a5⟩ := z
          have c0 : wr.cell? ⟨b1, f1 + q * 6, none⟩ = some (.int .i64 a0) := by simpa using hr 0 _ rfl
          have c1 : wr.cell? ⟨b1, f1 + q * 6 + 1, none⟩ = some (.int .i64 a1) := hr 1 _ rfl
          have c2 : wr.cell? ⟨b1, f1 + q * 6 + 2, none⟩ = some (.int .i64 a2) := hr 2 _ rfl
          have c3 : wr.cell? ⟨b1, f1 + q * 6 + 3, none⟩ = some (.int .i64 a3) := hr 3 _ rfl
          have c4 : wr.cell? ⟨b1, f1 + q * 6 + 4, none⟩ = some (.int .i32 a4) := hr 4 _ rfl
          have c5 : wr.cell? ⟨b1, f1 + q * 6 + 5, none⟩ = some (.int .i64 a5) := hr 5 _ rfl
          have d0 : wr.cell? ⟨b2, f2 + q * 6, none⟩ = some (.int .i64 a0) := by simpa using hr2 0 _ rfl
          have d1 : wr.cell? ⟨b2, f2 + q * 6 + 1, none⟩ = some (.int .i64 a1) := hr2 1 _ rfl
          have d2 : wr.cell? ⟨b2, f2 + q * 6 + 2, none⟩ = some (.int .i64 a2) := hr2 2 _ rfl
          have d3 : wr.cell? ⟨b2, f2 + q * 6 + 3, none⟩ = some (.int .i64 a3) := hr2 3 _ rfl
          have d4 : wr.cell? ⟨b2, f2 + q * 6 + 4, none⟩ = some (.int .i32 a4) := hr2 4 _ rfl
          have d5 : wr.cell? ⟨b2, f2 + q * 6 + 5, none⟩ = some (.int .i64 a5) := hr2 5 _ rfl
          have aN := Tryz.isAgg66
          have zN := Tryz.sizeOf66
          clear hc hc' hr hr2 hz
          go_upto_region 11 with (fail)
          go_quiet (fail)
          go_wp2_with (fail)
          go_roundw
          case rel => exact ⟨q + 1, by go_num, by omega, HKX.out.drewN nq⟩
          case measure => simp [intOf]; omega
        · as_aux_lemma =>
          have hin2 : ¬ (q : Int) < (M : Int) := by omega
          go_wp2_with (fail)
          go_ret
          exact ⟨rfl, HKS.out⟩
end Go.Proofs.YtnajbkccaclkcaaGreat

namespace Go.Proofs.YtnajbkccaclkcaaGreat
open Go Go.RowKit

theorem CellsAt.pre {w : World} {A : Option Addr} {xs ys : List Value} (h : CellsAt w A (xs ++ ys)) : CellsAt w A xs := fun j u hj => h j u (by
  rw [List.getElem?_append_left (List.getElem?_eq_some_iff.1 hj).1]
  exact hj)
theorem OpLent.at {W : World} {base : Nat} {y : Lop} (h : OpLent W base y) : y.At W := ⟨by
  have := h.d
  rw [show dots y.o.deps ++ [.int .i64 903, .int .i64 0] = dots (y.o.deps ++ [⟨903, 0⟩]) by rw [dots_app]] at this
  exact DotsAt.pre (DotsAt.of_own this), by
  have := h.g
  rw [show runs y.o.gone ++ [.int .i64 0, .int .i64 0, .int .i64 904] = runs (y.o.gone ++ [⟨⟨0, 0⟩, 904⟩]) by rw [runs_app]] at this
  exact RunsAt.pre (RunsAt.of_own this)⟩
theorem OpLent.fresh {W W' : World} {base : Nat} {y : Lop} (h : OpLent W base y) (hk : Kept (fun _ => False) W W') : OpLent W' base y := ⟨hk.own h.d fun _ _ => id, hk.own h.g fun _ _ => id⟩
section
variable {W W' : World} {base : Nat} {m x : Im}
theorem LentAt.fresh (h : LentAt W base m x) (hk : Kept (fun _ => False) W W') : LentAt W' base m x := ⟨h.ev, h.eb, h.ecl, h.elog, h.en, h.ej, h.ee, h.eep, hk.own h.v fun _ _ => id, hk.own h.b fun _ _ => id, hk.own h.l fun _ _ => id, fun y hy => (h.ops y hy).fresh hk, hk.own h.n fun _ _ => id, hk.own h.j fun _ _ => id, hk.own h.e fun _ _ => id⟩
theorem LentAt.same (h : LentAt W base m x) : SameIm x m := ⟨h.ev.symm, h.eb.symm, h.ecl.symm, h.elog.symm, h.en.symm, h.ej.symm, h.ee.symm, h.eep.symm⟩
theorem LentAt.at (h : LentAt W base m x) : x.At W := ⟨by
  have := h.v
  rw [show dots x.v ++ [.int .i64 901, .int .i64 0] = dots (x.v ++ [⟨901, 0⟩]) by rw [dots_app]] at this
  exact DotsAt.pre (DotsAt.of_own this), by
  have := h.b
  rw [show dots x.b ++ [.int .i64 902, .int .i64 0] = dots (x.b ++ [⟨902, 0⟩]) by rw [dots_app]] at this
  exact DotsAt.pre (DotsAt.of_own this), (CellsAt.of_own h.l).pre, fun y hy => (h.ops y hy).at, (CellsAt.of_own h.n).pre, (CellsAt.of_own h.j).pre, (CellsAt.of_own h.e).pre⟩
theorem LentAt.small (h : LentAt W base m x) (hs : m.Small) : x.Small := by
  have hl : x.log.length = m.log.length := by
    have := congrArg List.length h.elog
    simpa using this
  refine ⟨by rw [h.ev]; exact hs.v, by rw [h.eb]; exact hs.b, by rw [hl]; exact hs.log, fun y hy => ?_, by rw [h.en]; exact hs.nodes, by rw [h.ej]; exact hs.joined, by rw [h.ee]; exact hs.left⟩
  have : y.o ∈ x.log.map (·.o) := List.mem_map.2 ⟨y, hy, rfl⟩
  rw [h.elog] at this
  obtain ⟨z, hz, e⟩ := List.mem_map.1 this
  rw [← e]
  exact hs.ops z hz
theorem LentAt.fit (h : LentAt W base m x) (hf : m.Fit) : x.Fit := ⟨by rw [h.en]; exact hf.nodes, by rw [h.ej]; exact hf.joined, by rw [h.ee]; exact hf.left, by rw [h.eep]; exact hf.ep⟩
end
/-- The mark behind a row. -/
theorem mark_at {w : World} {base n c s : Nat} {e : TypeId} {A : Option Addr} {xs ys : List Value} (h : w.ownsRow base e s (.slice A (n + 1) c) (n + 1) (xs ++ ys)) (hl : xs.length = n * s) : ∃ g, A = some ⟨g, 0, none⟩ ∧ n + 1 ≤ c ∧ ∀ j u, ys[j]? = some u → w.cell? ⟨g, n * s + j, none⟩ = some u := by
  obtain ⟨g, hA, -, hc, -⟩ := own_cells h (by omega)
  refine ⟨g, hA, (own_caps h).1, fun j u hj => hc _ _ ?_⟩
  rw [List.getElem?_append_right (by omega), hl, show n * s + j - n * s = j by omega]
  exact hj

set_option maxRecDepth 100000 in
set_option maxHeartbeats 8000000 in
theorem back9_true (m x : Im) (base : Nat) (w : World) (hx : LentAt w base m x) (hm : m.At w) (hs : m.Small) : Calls Tryz.prog 11 #[.agg x.c, .agg m.c] w (SamePost w true) := by
  have HSA := Lib.hid (fun W (hW : Kept (fun _ => False) w W) => same9_true x m W (hx.fresh hW).at (hm.fresh hW) hx.same (hx.small hs))
  have hxs := hx.small hs
  obtain ⟨ms, hms⟩ : ∃ ms, m.c = ms := ⟨_, rfl⟩
  have HMS := Lib.hid (show ms.size = 8 by rw [← hms]; rfl)
  rw [hms] at HSA ⊢
  obtain ⟨v, vA, vc, b, bA, bc, clock, log, lA, lc, nodes, nA, nc, joined, jA, jc, left, eA, ec, epoch⟩ := x
  obtain ⟨-, -, -, -, -, -, -, -, hv, hb, hl, hops, hn, hj, he⟩ := hx
  have hl1 : v.length ≤ 1000000 := hxs.v
  have hl2 : b.length ≤ 1000000 := hxs.b
  have hl3 : log.length ≤ 1000000 := hxs.log
  have hl4 : nodes.length ≤ 1000000 := hxs.nodes
  have hl5 : joined.length ≤ 1000000 := hxs.joined
  have hl6 : left.length ≤ 1000000 := hxs.left
  have HSM := Lib.hid (show ∀ z ∈ log, z.o.Small from hxs.ops)
  unfold Im.c at HSA ⊢
  simp only at hv hb hl hops hn hj he HSA ⊢
  have hlc := CellsAt.of_own hl
  obtain ⟨gv, hvA, kv, mv⟩ := mark_at hv (dots_len v)
  obtain ⟨gb, hbA, kb, mb⟩ := mark_at hb (dots_len b)
  obtain ⟨gl, hlA, kl, ml⟩ := mark_at hl (lops_len log)
  obtain ⟨gn, hnA, kn, mn⟩ := mark_at hn (nds_len nodes)
  obtain ⟨gj, hjA, kj, mj⟩ := mark_at hj (by rw [ints_len, Nat.mul_one])
  obtain ⟨ge, heA, ke, me⟩ := mark_at he (by rw [ints_len, Nat.mul_one])
  subst hvA hbA hlA hnA hjA heA
  have HV := Lib.hid (show ∀ W, Kept (fun _ => False) w W → W.cell? ⟨gv, v.length * 2, none⟩ = some (.int .i64 901) from fun W hW => hW.cellF (mv 0 _ rfl))
  have HB := Lib.hid (show ∀ W, Kept (fun _ => False) w W → W.cell? ⟨gb, b.length * 2, none⟩ = some (.int .i64 902) from fun W hW => hW.cellF (mb 0 _ rfl))
  have HL := Lib.hid (show ∀ W, Kept (fun _ => False) w W → W.cell? ⟨gl, log.length * 11 + 3, none⟩ = some (.int .i64 905) from fun W hW => hW.cellF (ml 3 _ rfl))
  have HN6 := Lib.hid (show ∀ W, Kept (fun _ => False) w W → W.cell? ⟨gn, nodes.length * 6 + 5, none⟩ = some (.int .i64 906) from fun W hW => hW.cellF (mn 5 _ rfl))
  have HJ := Lib.hid (show ∀ W, Kept (fun _ => False) w W → W.cell? ⟨gj, joined.length, none⟩ = some (.int .i64 907) from fun W hW => hW.cellF (by simpa using mj 0 _ rfl))
  have HE := Lib.hid (show ∀ W, Kept (fun _ => False) w W → W.cell? ⟨ge, left.length, none⟩ = some (.int .i64 908) from fun W hW => hW.cellF (by simpa using me 0 _ rfl))
  have HLC := Lib.hid (show CellsAt w (some ⟨gl, 0, none⟩) (lops log) from hlc.pre)
  have HOPS := Lib.hid hops
  have i1 : IntKind.i64.wrap ((v.length : Int) + 1) = ((v.length + 1 : Nat) : Int) := IntWalk.i64_in _ ⟨by omega, by omega⟩
  have i2 : IntKind.i64.wrap ((b.length : Int) + 1) = ((b.length + 1 : Nat) : Int) := IntWalk.i64_in _ ⟨by omega, by omega⟩
  have i4 : IntKind.i64.wrap ((nodes.length : Int) + 1) = ((nodes.length + 1 : Nat) : Int) := IntWalk.i64_in _ ⟨by omega, by omega⟩
  have i5 : IntKind.i64.wrap ((joined.length : Int) + 1) = ((joined.length + 1 : Nat) : Int) := IntWalk.i64_in _ ⟨by omega, by omega⟩
  have i6 : IntKind.i64.wrap ((left.length : Int) + 1) = ((left.length + 1 : Nat) : Int) := IntWalk.i64_in _ ⟨by omega, by omega⟩
  obtain ⟨N, hN⟩ : ∃ N, log.length = N := ⟨_, rfl⟩
  rw [hN] at hl3 kl HL HSA ⊢
  have i3 : IntKind.i64.wrap ((N : Int) + 1) = ((N + 1 : Nat) : Int) := IntWalk.i64_in _ ⟨by omega, by omega⟩
  have I1 := Lib.hid i1
  have I2 := Lib.hid i2
  have I3 := Lib.hid i3
  have I4 := Lib.hid i4
  have I5 := Lib.hid i5
  have I6 := Lib.hid i6
  have HNN := Lib.hid hN
  clear hv hb hl hops hn hj he hlc mv mb ml mn mj me hm hs hxs hms hN i1 i2 i3 i4 i5 i6
  have hk : Kept (fun _ => False) w ((w.alloc (.cells #[.slice (some ⟨gv, 0, none⟩) v.length vc, .slice (some ⟨gb, 0, none⟩) b.length bc, .int .i64 clock, .slice (some ⟨gl, 0, none⟩) N lc, .slice (some ⟨gn, 0, none⟩) nodes.length nc, .slice (some ⟨gj, 0, none⟩) joined.length jc, .slice (some ⟨ge, 0, none⟩) left.length ec, .int .i64 epoch] 28)).alloc (.cells ms 28)) := ((Kept.refl _ _).alloc _).alloc _
  have hb1 := (Box.new w 28 #[.slice (some ⟨gv, 0, none⟩) v.length vc, .slice (some ⟨gb, 0, none⟩) b.length bc, .int .i64 clock, .slice (some ⟨gl, 0, none⟩) N lc, .slice (some ⟨gn, 0, none⟩) nodes.length nc, .slice (some ⟨gj, 0, none⟩) joined.length jc, .slice (some ⟨ge, 0, none⟩) left.length ec, .int .i64 epoch]).alloc (.cells ms 28)
  have hb2 := Box.new (w.alloc (.cells #[.slice (some ⟨gv, 0, none⟩) v.length vc, .slice (some ⟨gb, 0, none⟩) b.length bc, .int .i64 clock, .slice (some ⟨gl, 0, none⟩) N lc, .slice (some ⟨gn, 0, none⟩) nodes.length nc, .slice (some ⟨gj, 0, none⟩) joined.length jc, .slice (some ⟨ge, 0, none⟩) left.length ec, .int .i64 epoch] 28)) 28 ms
  rw [World.size_alloc] at hb2
  go_enter Tryz.func11, Tryz.ntmps11
  go_upto_region 1 with (fail)
  generalize (w.alloc (.cells #[.slice (some ⟨gv, 0, none⟩) v.length vc, .slice (some ⟨gb, 0, none⟩) b.length bc, .int .i64 clock, .slice (some ⟨gl, 0, none⟩) N lc, .slice (some ⟨gn, 0, none⟩) nodes.length nc, .slice (some ⟨gj, 0, none⟩) joined.length jc, .slice (some ⟨ge, 0, none⟩) left.length ec, .int .i64 epoch] 28)).alloc (.cells ms 28) = w1 at hk hb1 hb2 ⊢
  obtain ⟨g, hg⟩ : ∃ g, w.heap.size = g := ⟨_, rfl⟩
  rw [hg] at hb1 hb2 ⊢
  have HK := Lib.hid hk
  have HB1 := Lib.hid hb1
  have HB2 := Lib.hid hb2
  clear hk hb1 hb2 hg
  have HX0 := Lib.hid (show ∀ W, Kept (fun _ => False) w1 W → W.cell? ⟨g, 0, none⟩ = some (.slice (some ⟨gv, 0, none⟩) v.length vc) from fun W hW => by simpa using (HB1.out.kept hW id).cell 0)
  have HX1 := Lib.hid (show ∀ W, Kept (fun _ => False) w1 W → W.cell? ⟨g, 1, none⟩ = some (.slice (some ⟨gb, 0, none⟩) b.length bc) from fun W hW => by simpa using (HB1.out.kept hW id).cell 1)
  have HX2 := Lib.hid (show ∀ W, Kept (fun _ => False) w1 W → W.cell? ⟨g, 2, none⟩ = some (.int .i64 clock) from fun W hW => by simpa using (HB1.out.kept hW id).cell 2)
  have HX3 := Lib.hid (show ∀ W, Kept (fun _ => False) w1 W → W.cell? ⟨g, 3, none⟩ = some (.slice (some ⟨gl, 0, none⟩) N lc) from fun W hW => by simpa using (HB1.out.kept hW id).cell 3)
  have HX4 := Lib.hid (show ∀ W, Kept (fun _ => False) w1 W → W.cell? ⟨g, 4, none⟩ = some (.slice (some ⟨gn, 0, none⟩) nodes.length nc) from fun W hW => by simpa using (HB1.out.kept hW id).cell 4)
  have HX5 := Lib.hid (show ∀ W, Kept (fun _ => False) w1 W → W.cell? ⟨g, 5, none⟩ = some (.slice (some ⟨gj, 0, none⟩) joined.length jc) from fun W hW => by simpa using (HB1.out.kept hW id).cell 5)
  have HX6 := Lib.hid (show ∀ W, Kept (fun _ => False) w1 W → W.cell? ⟨g, 6, none⟩ = some (.slice (some ⟨ge, 0, none⟩) left.length ec) from fun W hW => by simpa using (HB1.out.kept hW id).cell 6)
  have HX7 := Lib.hid (show ∀ W, Kept (fun _ => False) w1 W → W.cell? ⟨g, 7, none⟩ = some (.int .i64 epoch) from fun W hW => by simpa using (HB1.out.kept hW id).cell 7)
  go_wp2_with (first | (refine wpList_load_im rfl _ rfl g rfl _ rfl HB1.out ?_) | (refine wpList_load_im rfl _ rfl (g + 1) rfl _ HMS.out HB2.out ?_))
  refine (HSA.out _ HK.out).mono ?_
  unfold SamePost
  rintro r w2 ⟨rfl, hk2⟩
  have HK2 := Lib.hid hk2
  have x3 := HX3.out _ hk2
  clear hk2
  go_wp2_with (fail)
  clear x3
  go_loopw [5] (fun i wr => ∃ k : Nat, i = .int .i64 k ∧ k ≤ N ∧ Kept (fun _ => False) w1 wr) (fun i _ => N - (intOf i).toNat)
  case atStart => exact ⟨0, rfl, Nat.zero_le _, HK2.out⟩
  case round =>
    obtain ⟨k, rfl, hk, hkw⟩ := hrel
    have HKW := Lib.hid hkw
    have HKR := Lib.hid (HK.out.trans hkw fun _ _ e => e)
    have x3 := HX3.out _ hkw
    clear hkw
    by_cases hlt : k < N
    · as_aux_lemma =>
      have hin : (k : Int) < (N : Int) := by omega
      have hkl : k < log.length := by rw [HNN.out]; exact hlt
      obtain ⟨b1, f1, hA, hc⟩ := HLC.out.some_ (by rw [lops_len]; omega)
      injection hA with hA
      injection hA with e1 e2
      subst e1 e2
      have hr := lop_range (w := wr) (fun j u hj => HKR.out.cellF (hc j u hj)) k hkl
      have hy := (HOPS.out _ (List.getElem_mem hkl)).fresh HKR.out
      have hsm := HSM.out _ (List.getElem_mem hkl)
      obtain ⟨y, hyy⟩ : ∃ y, log[k] = y := ⟨_, rfl⟩
      rw [hyy] at hr hy hsm
      obtain ⟨gd, hdA, kd, md⟩ := mark_at hy.d (dots_len _)
      obtain ⟨gg, hgA, kg, mg⟩ := mark_at hy.g (runs_len _)
      have z1 : wr.cell? ⟨gd, y.o.deps.length * 2, none⟩ = some (.int .i64 903) := md 0 _ rfl
      have z2 : wr.cell? ⟨gg, y.o.gone.length * 3 + 2, none⟩ = some (.int .i64 904) := mg 2 _ rfl
      have c2 : wr.cell? ⟨gl, k * 11 + 2, none⟩ = some (.slice y.dA y.o.deps.length y.dc) := by simpa using hr 2 _ rfl
      have c9 : wr.cell? ⟨gl, k * 11 + 9, none⟩ = some (.slice y.gA y.o.gone.length y.gc) := by simpa using hr 9 _ rfl
      rw [hdA] at c2
      rw [hgA] at c9
      have hdl := hsm.dl
      have hgl := hsm.gl
      obtain ⟨nd, hnd⟩ : ∃ nd, y.o.deps.length = nd := ⟨_, rfl⟩
      obtain ⟨ng, hng⟩ : ∃ ng, y.o.gone.length = ng := ⟨_, rfl⟩
      obtain ⟨cd, hcd⟩ : ∃ cd, y.dc = cd := ⟨_, rfl⟩
      obtain ⟨cg, hcg⟩ : ∃ cg, y.gc = cg := ⟨_, rfl⟩
      rw [hnd] at kd z1 c2 hdl
      rw [hng] at kg z2 c9 hgl
      rw [hcd] at kd c2
      rw [hcg] at kg c9
      have j1 : IntKind.i64.wrap ((nd : Int) + 1) = ((nd + 1 : Nat) : Int) := IntWalk.i64_in _ ⟨by omega, by omega⟩
      have j2 : IntKind.i64.wrap ((ng : Int) + 1) = ((ng + 1 : Nat) : Int) := IntWalk.i64_in _ ⟨by omega, by omega⟩
      clear hr hy hsm hyy md mg hdA hgA hnd hng hcd hcg hc
      go_wp2_with (fail)
      go_roundw
      case rel => exact ⟨k + 1, by go_num, by omega, HKW.out⟩
      case measure => simp [intOf]; omega
    · as_aux_lemma =>
      have hin : ¬ (k : Int) < (N : Int) := by omega
      have x0 := HX0.out _ HKW.out
      have x1 := HX1.out _ HKW.out
      have x4 := HX4.out _ HKW.out
      have x5 := HX5.out _ HKW.out
      have x6 := HX6.out _ HKW.out
      have t0 := HV.out _ HKR.out
      have t1 := HB.out _ HKR.out
      have t3 := HL.out _ HKR.out
      have t4 := HN6.out _ HKR.out
      have t5 := HJ.out _ HKR.out
      have t6 := HE.out _ HKR.out
      have i1 := I1.out
      have i2 := I2.out
      have i3 := I3.out
      have i4 := I4.out
      have i5 := I5.out
      have i6 := I6.out
      obtain ⟨n0, hn0⟩ : ∃ n0, v.length = n0 := ⟨_, rfl⟩
      obtain ⟨n1, hn1⟩ : ∃ n1, b.length = n1 := ⟨_, rfl⟩
      obtain ⟨n4, hn4⟩ : ∃ n4, nodes.length = n4 := ⟨_, rfl⟩
      obtain ⟨n5, hn5⟩ : ∃ n5, joined.length = n5 := ⟨_, rfl⟩
      obtain ⟨n6, hn6⟩ : ∃ n6, left.length = n6 := ⟨_, rfl⟩
      rw [hn0] at x0 t0 i1 kv
      rw [hn1] at x1 t1 i2 kb
      rw [hn4] at x4 t4 i4 kn
      rw [hn5] at x5 t5 i5 kj
      rw [hn6] at x6 t6 i6 ke
      clear hn0 hn1 hn4 hn5 hn6 hl1 hl2 hl4 hl5 hl6
      go_wp2_with (fail)
      go_ret
      exact ⟨rfl, HKR.out⟩
end Go.Proofs.YtnajbkccaclkcaaGreat

namespace Go.Proofs.YtnajbkccaclkcaaGreat
open Go Go.RowKit

theorem DotsAt.block_lt {w : World} {A : Option Addr} {l : List Dt} (h : DotsAt w A l) (hl : l ≠ []) : ∀ a, A = some a → a.block < w.heap.size := by
  rintro a rfl
  obtain ⟨ad, e, h0, _⟩ := h 0 (List.length_pos_iff.2 hl)
  injection e with e
  subst e
  have := World.block_lt_of_cell? w _ h0
  have hb : (a.add (0 * 2)).block = a.block := by unfold Addr.add; split <;> rfl
  rwa [hb] at this
theorem RunsAt.block_lt {w : World} {A : Option Addr} {l : List Rn} (h : RunsAt w A l) (hl : l ≠ []) : ∀ a, A = some a → a.block < w.heap.size := by
  rintro a rfl
  obtain ⟨ad, e, h0, _⟩ := h 0 (List.length_pos_iff.2 hl)
  injection e with e
  subst e
  have := World.block_lt_of_cell? w _ h0
  have hb : (a.add (0 * 3)).block = a.block := by unfold Addr.add; split <;> rfl
  rwa [hb] at this

/-- A Writer that was made since wm, at g; nothing of wm has turned; nothing is wrong with it. -/
structure WrIn (wm : World) (g : Nat) (l : List Int) (W : World) : Prop where
  k : Kept (fun _ => False) wm W
  w : ∃ sv, WriterAt W wm.heap.size g sv l 0
/-- What a writing leaves. -/
def Stays (wm : World) (g : Nat) (Src : World → Prop) : Prop := ∀ W1 W2 sv l, WriterAt W1 wm.heap.size g sv l 0 → Kept (OwnsW g sv) W1 W2 → Kept (fun _ => False) wm W1 → Kept (fun _ => False) wm W2 → Src W1 → Src W2
def WrPost (wm : World) (g : Nat) (l : List Int) (Src : World → Prop) (r : Ending) (W' : World) : Prop := r = .returned (.tuple #[]) ∧ WrIn wm g l W' ∧ Src W'
section
variable {wm W W' : World} {g : Nat} {l l' : List Int} {r : Ending} {Src : World → Prop}
theorem WrIn.fresh (h : WrIn wm g l W) (hk : Kept (fun _ => False) W W') : WrIn wm g l W' := by
  obtain ⟨sv, hw⟩ := h.w
  exact ⟨h.k.trans hk fun _ _ e => e, sv, hw.fresh hk⟩
theorem WrIn.new (wm : World) : WrIn wm wm.heap.size [] (wm.alloc (.cells #[.slice none 0 0, .int .i64 0] 39)) := ⟨(Kept.refl _ _).alloc _, _, WriterAt.new wm⟩
theorem WrIn.of_post {sv : Value} (h : WriterAt W wm.heap.size g sv l 0) (hk : Kept (fun _ => False) wm W) (hst : Stays wm g Src) (hsrc : Src W) (hp : WPost W wm.heap.size g sv l' 0 r W') : WrPost wm g l' Src r W' := by
  obtain ⟨hr, sv', h', hk', -⟩ := hp
  have hkw : Kept (fun _ => False) wm W' := hk.trans hk' fun k h1 h2 => by
    rcases h2 with rfl | h2
    · have := h.base_le; omega
    · have := (h.row.lt k h2).1; omega
  exact ⟨hr, ⟨hkw, sv', h'⟩, hst _ _ _ _ h hk' hk hkw hsrc⟩
theorem WrIn.num (h : WrIn wm g l W) (hst : Stays wm g Src) (hsrc : Src W) (x : Int) (hl : l.length ≤ 1000000) (h0 : 0 ≤ x) (hx : x ≤ 9223372036854775807) : Calls Tryz.prog 20 #[.pointer (some ⟨g, 0, none⟩), .int .i64 x] W (WrPost wm g (l ++ enc x.toNat) Src) := by
  obtain ⟨sv, hw⟩ := h.w
  have := Number_any _ g sv l 0 x W hw hl hx
  rw [show wrB l 0 x = l ++ enc x.toNat by unfold wrB; rw [if_neg (by decide), if_neg (by omega)], show wrE 0 x = 0 by unfold wrE; rw [if_neg (by decide), if_neg (by omega)]] at this
  exact this.mono fun r W' hp => WrIn.of_post hw h.k hst hsrc hp
theorem WrIn.vec (h : WrIn wm g l W) (hst : Stays wm g Src) (hsrc : Src W) (A : Option Addr) (v : List Dt) (c : Nat) (hv : DotsAt wm A v) (hc : checkV v = 0) (hlen : v.length ≤ 1000000) (hl : l.length ≤ 900000) : Calls Tryz.prog 36 #[.pointer (some ⟨g, 0, none⟩), .slice A v.length c] W (WrPost wm g (l ++ encs (vnums v)) Src) := by
  obtain ⟨sv, hw⟩ := h.w
  have := Put_any _ g sv l 0 A v c W hw (hv.fresh h.k) (by omega) hl
  rw [vec_says hc, show puts l 0 (vnums v) = l ++ encs (vnums v) by unfold puts; rw [if_neg (by decide)]; rfl] at this
  exact this.mono fun r W' hp => WrIn.of_post hw h.k hst hsrc hp
theorem WrIn.op (h : WrIn wm g l W) (hst : Stays wm g Src) (hsrc : Src W) (x : Lop) (hx : x.At wm) (hs : x.o.Small) (hok : okOp x.o = true) (hl : l.length ≤ 800000) : Calls Tryz.prog 38 #[.pointer (some ⟨g, 0, none⟩), .agg x.c] W (WrPost wm g (l ++ encOp x.o) Src) := by
  obtain ⟨sv, hw⟩ := h.w
  have hoff : OffW g sv x := by
    refine ⟨fun hne a ha ho => ?_, fun hne a ha ho => ?_⟩
    · have h1 := hx.d.block_lt hne a ha
      rcases ho with ho | ho
      · have := hw.base_le; omega
      · have := (hw.row.lt _ ho).1; omega
    · have h1 := hx.g.block_lt hne a ha
      rcases ho with ho | ho
      · have := hw.base_le; omega
      · have := (hw.row.lt _ ho).1; omega
  have := OpPut_any _ g sv l 0 x W hw (hx.fresh h.k) hs hoff hl
  rw [show layO l 0 x.o = l ++ encOp x.o by unfold layO layB; rw [if_pos hok, if_neg (by decide)]] at this
  exact this.mono fun r W' hp => WrIn.of_post hw h.k hst hsrc hp
theorem Stays.box {gi : Nat} {T : TypeId} {cs : Array Value} (h1 : T ≠ 39) (h2 : 5 ≠ T) : Stays wm g (fun W => Box W gi T cs) := fun W1 W2 sv l hw hk _ _ hb => hb.kept hk fun e => by
  rcases e with rfl | e
  · exact Box.ne hb hw.box h1 rfl
  · exact own_box_ne hw.row hb h2 e
theorem Stays.and {S T : World → Prop} (h1 : Stays wm g S) (h2 : Stays wm g T) : Stays wm g (fun W => S W ∧ T W) := fun W1 W2 sv l hw hk a b hs => ⟨h1 W1 W2 sv l hw hk a b hs.1, h2 W1 W2 sv l hw hk a b hs.2⟩
theorem Stays.old {S : World → Prop} (h : ∀ W, Kept (fun _ => False) wm W → S W) : Stays wm g S := fun _ W2 _ _ _ _ _ hk _ => h W2 hk
end
/-- Numbers, one behind the other. -/
def encZ (l : List Int) : List Int := l.flatMap fun z => enc z.toNat
theorem encZ_app (l m : List Int) : encZ (l ++ m) = encZ l ++ encZ m := by simp [encZ]
theorem encZ_one (x : Int) : encZ [x] = enc x.toNat := by simp [encZ]

set_option maxRecDepth 100000 in
set_option maxHeartbeats 1600000 in
theorem numbers_any {wm : World} {g : Nat} {Src : World → Prop} (hst : Stays wm g Src) (A : Option Addr) (nums : List Int) (c : Nat) (hS : ∀ W, Src W → CellsAt W A (ints nums)) (h0 : ∀ x ∈ nums, 0 ≤ x ∧ x ≤ 9223372036854775807) (l : List Int) (w : World) (h : WrIn wm g l w) (hsrc : Src w) (hl : l.length + (encZ nums).length ≤ 1000000) (hn : nums.length ≤ 1000000) :
    Calls Tryz.prog 37 #[.pointer (some ⟨g, 0, none⟩), .slice A nums.length c] w (WrPost wm g (l ++ encZ nums) Src) := by
  have HST := Lib.hid hst
  have HS := Lib.hid hS
  have H0 := Lib.hid h0
  have HW := Lib.hid h
  have HSRC := Lib.hid hsrc
  have HLL := Lib.hid hl
  obtain ⟨N, hN⟩ : ∃ N, nums.length = N := ⟨_, rfl⟩
  rw [hN] at hn ⊢
  have HN := Lib.hid hN
  clear hst hS h0 h hsrc hl hN
  go_enter Tryz.func37, Tryz.ntmps37
  go_wp2_with (fail)
  go_loopw [8] (fun i wr => ∃ k : Nat, i = .int .i64 k ∧ k ≤ N ∧ WrIn wm g (l ++ encZ (nums.take k)) wr ∧ Src wr) (fun i _ => N - (intOf i).toNat)
  case atStart => exact ⟨0, rfl, Nat.zero_le _, by simpa [encZ] using HW.out, HSRC.out⟩
  case round =>
    obtain ⟨k, rfl, hk, hw, hsr⟩ := hrel
    have HW1 := Lib.hid hw
    have HSR := Lib.hid hsr
    clear hw hsr
    by_cases hlt : k < N
    · as_aux_lemma =>
      have hin : (k : Int) < (N : Int) := by omega
      have hkl : k < nums.length := by rw [HN.out]; exact hlt
      obtain ⟨b, f, rfl, hc⟩ := ints_cell (HS.out _ HSR.out) (by omega)
      have c1 := hc k hkl
      have ht := List.take_succ_eq_append_getElem hkl
      have hbd := H0.out _ (List.getElem_mem hkl)
      obtain ⟨x, hx⟩ : ∃ x, nums[k] = x := ⟨_, rfl⟩
      rw [hx] at c1 ht hbd
      have hlen : (l ++ encZ (nums.take k)).length ≤ 1000000 := by
        have := HLL.out
        have e : encZ nums = encZ (nums.take k) ++ encZ (nums.drop k) := by rw [← encZ_app, List.take_append_drop]
        rw [e, List.length_append] at this
        rw [List.length_append]
        omega
      have HNM := Lib.hid (HW1.out.num HST.out HSR.out x hlen hbd.1 hbd.2)
      rw [show l ++ encZ (nums.take k) ++ enc x.toNat = l ++ encZ (nums.take (k + 1)) by rw [ht, encZ_app, encZ_one, List.append_assoc]] at HNM
      clear hc ht hx hbd hlen
      go_wp2_with (fail)
      refine HNM.out.mono ?_
      unfold WrPost
      rintro r w2 ⟨rfl, hw2, hs2⟩
      have HW2 := Lib.hid hw2
      have HS2 := Lib.hid hs2
      clear hw2 hs2 c1
      go_wp2_with (fail)
      go_roundw
      case rel => exact ⟨k + 1, by go_num, by omega, HW2.out, HS2.out⟩
      case measure => simp [intOf]; omega
    · as_aux_lemma =>
      have hin : ¬ (k : Int) < (N : Int) := by omega
      have hw := HW1.out
      rw [List.take_of_length_le (by rw [HN.out]; omega)] at hw
      have HWF := Lib.hid hw
      clear hw
      go_wp2_with (fail)
      go_end0
      exact ⟨rfl, HWF.out, HSR.out⟩
end Go.Proofs.YtnajbkccaclkcaaGreat
